import Derived.Test.YtnlpcbdmllpddaaGreatTka
import Derived.Test.YtnlpcbdmllpddaaGreatTkb
import Derived.Test.YtnlpcbdmllpddaaGreatTkc
import Derived.Test.YtnlpcbdmllpddaaGreatTkd
import Derived.Test.YtnlpcbdmllpddaaGreatTke
import Derived.Test.YtnlpcbdmllpddaaGreatTkf
import Derived.Test.YtnlpcbdmllpddaaGreatTkg
import Derived.Test.YtnlpcbdmllpddaaGreatTkh
import Derived.Test.YtnlpcbdmllpddaaGreatTki
import Derived.KernelRfl
section
/- Laws of frames that stay: tables. -/
namespace Go.Proofs.YtnlpcbdmllpddaaGreat
open Go SE
noncomputable section
def newC : Ctr := clo0 [i64 10, i64 1] sSAV sSAM sSAO
theorem new_ok : CtrOk Tryz.prog 15 newC := clo0_ok sSA_sp
def nilA : List AV → Bool
  | .lit (.pointer none) :: _ => true
  | _ => false
def nilT (A B : WTr) : WTr := fun args h K => bif nilA args then A args h K else B args h K
theorem nilT_ok {P : Program} {f : FuncId} {A B : WTr} (hA : ∀ args h K, A args h K → Sp P f args h K) (hB : ∀ args h K, B args h K → Sp P f args h K) (args : List AV) (h : Heap) (K : AV → Heap → Prop) (hq : nilT A B args h K) : Sp P f args h K := by
  unfold nilT at hq
  cases hb : nilA args <;> rw [hb] at hq
  · exact hB _ _ _ hq
  · exact hA _ _ _ hq
def stepT (is : Int → Prop) : WTr := nilT (pickT (ctrT stW) (ctrT stN)) (pickT (ctrT (saW is)) (ctrT (saN is)))
theorem stepT_ok {f : FuncId} {is : Int → Prop} (h1 : CtrOk Tryz.prog f stW) (h2 : CtrOk Tryz.prog f stN) (h3 : CtrOk Tryz.prog f (saW is)) (h4 : CtrOk Tryz.prog f (saN is)) : ∀ args h K, stepT is args h K → Sp Tryz.prog f args h K :=
  nilT_ok (pickT_ok (ctrT_ok h1) (ctrT_ok h2)) (pickT_ok (ctrT_ok h3) (ctrT_ok h4))
def beginT : WTr := pickT (ctrT beginWC) (ctrT beginNC)
theorem beginT_ok : ∀ args h K, beginT args h K → Sp Tryz.prog 11 args h K := pickT_ok (ctrT_ok beginW_ok) (ctrT_ok beginN_ok)
def sameT : WTr := pickT (ctrT sameFW) (ctrT sameFN)
theorem sameT_ok : ∀ args h K, sameT args h K → Sp Tryz.prog 16 args h K := pickT_ok (ctrT_ok sameFW_ok) (ctrT_ok sameFN_ok)
/-- What all of these laws call. -/
def tblN : WTbl := [(9, ctrT weightC), (12, ctrT copyC), (11, beginT), (15, ctrT newC), (16, sameT)]
theorem tblN_ok {r : WTbl} (h : TblOk Tryz.prog r) : TblOk Tryz.prog (tblN ++ r) := .cons (ctrT_ok weight_ok) (.cons (ctrT_ok copy_ok) (.cons beginT_ok (.cons (ctrT_ok new_ok) (.cons sameT_ok h))))
end
end Go.Proofs.YtnlpcbdmllpddaaGreat
end
section
/- A sync with an arena, of its own kind: contracts. -/
namespace Go.Proofs.YtnlpcbdmllpddaaGreat
open Go SE
noncomputable section
/-- Memory of which nothing is said. -/
def trivO : Own := { holds := fun _ _ _ => True, stays := fun _ _ _ _ _ _ => trivial }
def okK8 : AV → Heap → Prop := fun v h' => match v with
  | .tup [.agg l, .lit (.int .i64 z)] => l.length = 28 ∧ l.all oneCell = true ∧ z = 0 ∧ (h'.get 0).isSome = true ∧ (h'.get 1).isSome = true
  | _ => False
/-- A frame of which nothing is said. -/
def anyF : AV := .agg (List.replicate 28 .one)
def tblK8 : WTbl := [(45, cloneT), (145, loadX .u64)]
theorem tblK8_ok : TblOk Tryz.prog tblK8 := .cons cloneT_ok (.consX (fun _ _ _ hq => loadX_ok _ _ _ ext_load64 hq) .nil)
def kS8N : Ctr := { X := Own × Cll, args := fun x => [.ptr 0 0, i64 0, x.2.frN], k := 1, os := fun x => [.abs x.1], pre := fun x => Hd (isMem sSAM sSAO x.1), outs := [{ Y := Unit, post := fun _ _ => True, ret := fun _ _ => .tup [anyF, i64 0], m := 1, os := fun _ _ => [.abs trivO] }] }
def kS8W : Ctr := { X := Own × CP, args := fun x => [.ptr 0 0, i64 0, x.2.c.frW 1], k := 2, os := fun x => [.abs x.1, roomC x.2.cs], pre := fun x => Hd (isMem sSAM sSAO x.1 ∧ x.2.ok), outs := [{ Y := Unit, post := fun _ _ => True, ret := fun _ _ => .tup [anyF, i64 0], m := 2, os := fun _ _ => [.abs trivO, .abs trivO] }] }
/-- Of what is there nothing is said. -/
theorem leq_triv {k : Nat} {v v' : AV} {h : Heap} (hs : ∀ i, i < k → (h.get i).isSome = true) (hv : ∀ ρ ρ' u, VRel ρ v u → VRel ρ' v' u) : Leq k v h v' (hO k (List.replicate k (.abs trivO))) := by
  have hg : ∀ i, (hO k (List.replicate k (AObj.abs trivO))).get i = if i < k then some (.abs trivO) else none := fun i => by
    rw [hO_get (by simp)]
    simp [List.getElem?_replicate]
  refine ⟨Nat.le_refl _, fun ρ T w u hR hvr => ?_⟩
  obtain ⟨S, h1, h2, h3, h4, h5⟩ := hR
  refine ⟨fun i => if i < k then ρ i else none, fun i hi => by simp [hi], ⟨fun _ _ => False, fun i o hi => ?_, fun i j o o' b _ _ _ hS => hS.elim, fun i o b _ hS => hS.elim, fun i hi => by simp [hO] at hi; simp; omega, h5⟩, hv _ _ _ hvr⟩
  rw [hg] at hi
  split at hi
  · rename_i hik
    cases hi
    obtain ⟨o, ho⟩ := Option.isSome_iff_exists.1 (hs i hik)
    obtain ⟨a, ha, _⟩ := h1 i o ho
    exact ⟨a, by simp [hik, ha], trivial⟩
  · cases hi
theorem lrel_one {ρ ρ' : Ren} : ∀ (l : List AV) (n : Nat) (vs : List Value), l.length = n → l.all oneCell = true → LRel ρ l vs → LRel ρ' (List.replicate n .one) vs
  | [], _, _, rfl, _, h => h
  | a :: l, _, vs, rfl, ho, h => by
    simp only [LRel] at h
    obtain ⟨v, vs', rfl, h1, h2⟩ := h
    simp only [List.all_cons, Bool.and_eq_true] at ho
    simp only [List.length_cons, List.replicate_succ, LRel, VRel]
    exact ⟨v, vs', rfl, oneCell_spec ho.1 h1, lrel_one l _ vs' rfl ho.2 h2⟩
theorem okK8_leq {v : AV} {h' : Heap} (hk : okK8 v h') (k : Nat) (h2 : k ≤ 2) : Leq k v h' (.tup [anyF, i64 0]) (hO k (List.replicate k (.abs trivO))) := by
  unfold okK8 at hk
  split at hk
  · obtain ⟨hl, ho, rfl, g0, g1⟩ := hk
    refine leq_triv (fun i hi => ?_) fun ρ ρ' u hv => ?_
    · match i, hi with
      | 0, _ => exact g0
      | 1, _ => exact g1
      | i + 2, hi => omega
    · simp only [VRel, LRel, i64, anyF] at hv ⊢
      obtain ⟨vs, rfl, a, l, hl', ⟨x, rfl, hx⟩, b, m, rfl, rfl, rfl⟩ := hv
      exact ⟨vs, rfl, _, _, hl', ⟨x, rfl, lrel_one _ _ _ hl ho hx⟩, _, _, rfl, rfl, rfl⟩
  · exact hk.elim
end
end Go.Proofs.YtnlpcbdmllpddaaGreat
end
section
/- A sync with an arena: what is asked. -/
namespace Go.Proofs.YtnlpcbdmllpddaaGreat
open Go SE
def kS8NVC_wp (x : Own × Cll) : Prop := wpF Tryz.prog tblK8 tt noAn 200 8 14 (kS8N.args x) (openH 0 (hO 1 [.abs x.1]) (hO sSAM sSAO)) okK8
def kS8NVC (x : Own × Cll) : Prop :=
  (∃ (x_1 : @Cll), (True ∧
  (((((@Cll.kind x_1) = (@Cll.kind (@Prod.snd @Own @Cll x))) ∧
  (((@Cll.key x_1) = (@Cll.key (@Prod.snd @Own @Cll x))) ∧
  (((@Cll.value x_1) = (@Cll.value (@Prod.snd @Own @Cll x))) ∧
  (((@Cll.to x_1) = (@Cll.to (@Prod.snd @Own @Cll x))) ∧
  (((Value.slice (@Option.none @Addr) (0 : @Nat) (0 : @Nat)) = (Value.slice (@Option.none @Addr) (0 : @Nat) (0 : @Nat))) ∧
  (((0 : @Int) = (0 : @Int)) ∧
  (((0 : @Int) = (0 : @Int)) ∧
  ((@es = @es) ∧
  ((@Bool.false = @Bool.false) ∧
  (((0 : @Int) = (0 : @Int)) ∧
  ((@Bool.false = @Bool.false) ∧
  ((@es = @es) ∧
  (((0 : @Int) = (0 : @Int)) ∧
  (((0 : @Int) = (0 : @Int)) ∧
  (((0 : @Int) = (0 : @Int)) ∧
  (((0 : @Int) = (0 : @Int)) ∧
  (((-(1 : @Int)) = (-(1 : @Int))) ∧
  (((0 : @Int) = (0 : @Int)) ∧
  (((0 : @Int) = (0 : @Int)) ∧
  (((Value.slice (@Option.none @Addr) (0 : @Nat) (0 : @Nat)) = (Value.slice (@Option.none @Addr) (0 : @Nat) (0 : @Nat))) ∧
  (((0 : @Int) = (0 : @Int)) ∧
  (((Value.slice (@Option.none @Addr) (0 : @Nat) (0 : @Nat)) = (Value.slice (@Option.none @Addr) (0 : @Nat) (0 : @Nat))) ∧
  (((0 : @Int) = (0 : @Int)) ∧
  ((@Bool.false = @Bool.false) ∧
  ((@es = @es) ∧
  (((Value.slice (@Option.none @Addr) (0 : @Nat) (0 : @Nat)) = (Value.slice (@Option.none @Addr) (0 : @Nat) (0 : @Nat))) ∧
  (((Value.slice (@Option.none @Addr) (0 : @Nat) (0 : @Nat)) = (Value.slice (@Option.none @Addr) (0 : @Nat) (0 : @Nat))) ∧
  (((0 : @Int) = (0 : @Int)) ∧
  True)))))))))))))))))))))))))))) ∧
  True) ∧
  (True ∧
  (∀ (y : Unit), (True → (cP (@bne @Int (@instBEqOfDecidableEq @Int @Int.instDecidableEq) (@Cll.kind x_1) (8 : @Int)) (((@List.length @AV [(AV.lit (Value.int @IntKind.i64 (@Cll.kind x_1))), (AV.lit (Value.string (@Cll.key x_1))), (AV.lit (Value.string (@Cll.value x_1))), (AV.lit (Value.string (@Cll.to x_1))), (AV.lit (Value.slice (@Option.none @Addr) (0 : @Nat) (0 : @Nat))), (AV.lit (Value.int @IntKind.i64 (0 : @Int))), (AV.lit (Value.int @IntKind.u64 (0 : @Int))), (AV.lit (Value.string @es)), (AV.lit (Value.bool @Bool.false)), (AV.lit (Value.int @IntKind.i64 (0 : @Int))), (AV.lit (Value.bool @Bool.false)), (AV.lit (Value.string @es)), (AV.lit (Value.int @IntKind.u64 (0 : @Int))), (AV.lit (Value.int @IntKind.u64 (0 : @Int))), (AV.lit (Value.int @IntKind.i64 (0 : @Int))), (AV.lit (Value.int @IntKind.i64 (0 : @Int))), (AV.lit (Value.int @IntKind.i64 (-(1 : @Int)))), (AV.lit (Value.int @IntKind.i64 (0 : @Int))), (AV.lit (Value.int @IntKind.i64 (0 : @Int))), (AV.lit (Value.slice (@Option.none @Addr) (0 : @Nat) (0 : @Nat))), (AV.lit (Value.int @IntKind.i64 (0 : @Int))), (AV.lit (Value.slice (@Option.none @Addr) (0 : @Nat) (0 : @Nat))), (AV.lit (Value.int @IntKind.i64 (0 : @Int))), (AV.lit (Value.bool @Bool.false)), (AV.lit (Value.string @es)), (AV.lit (Value.slice (@Option.none @Addr) (0 : @Nat) (0 : @Nat))), (AV.lit (Value.slice (@Option.none @Addr) (0 : @Nat) (0 : @Nat))), (AV.lit (Value.int @IntKind.u64 (0 : @Int)))]) = (28 : @Nat)) ∧
  (((@List.all @AV [(AV.lit (Value.int @IntKind.i64 (@Cll.kind x_1))), (AV.lit (Value.string (@Cll.key x_1))), (AV.lit (Value.string (@Cll.value x_1))), (AV.lit (Value.string (@Cll.to x_1))), (AV.lit (Value.slice (@Option.none @Addr) (0 : @Nat) (0 : @Nat))), (AV.lit (Value.int @IntKind.i64 (0 : @Int))), (AV.lit (Value.int @IntKind.u64 (0 : @Int))), (AV.lit (Value.string @es)), (AV.lit (Value.bool @Bool.false)), (AV.lit (Value.int @IntKind.i64 (0 : @Int))), (AV.lit (Value.bool @Bool.false)), (AV.lit (Value.string @es)), (AV.lit (Value.int @IntKind.u64 (0 : @Int))), (AV.lit (Value.int @IntKind.u64 (0 : @Int))), (AV.lit (Value.int @IntKind.i64 (0 : @Int))), (AV.lit (Value.int @IntKind.i64 (0 : @Int))), (AV.lit (Value.int @IntKind.i64 (-(1 : @Int)))), (AV.lit (Value.int @IntKind.i64 (0 : @Int))), (AV.lit (Value.int @IntKind.i64 (0 : @Int))), (AV.lit (Value.slice (@Option.none @Addr) (0 : @Nat) (0 : @Nat))), (AV.lit (Value.int @IntKind.i64 (0 : @Int))), (AV.lit (Value.slice (@Option.none @Addr) (0 : @Nat) (0 : @Nat))), (AV.lit (Value.int @IntKind.i64 (0 : @Int))), (AV.lit (Value.bool @Bool.false)), (AV.lit (Value.string @es)), (AV.lit (Value.slice (@Option.none @Addr) (0 : @Nat) (0 : @Nat))), (AV.lit (Value.slice (@Option.none @Addr) (0 : @Nat) (0 : @Nat))), (AV.lit (Value.int @IntKind.u64 (0 : @Int)))] @oneCell) = @Bool.true) ∧
  (((0 : @Int) = (0 : @Int)) ∧
  (((@Option.isSome @AObj (@Option.some @AObj (@AObj.cells (117 : @TypeId) (@Cs.av [(AV.ptr (1 : @Nat) (0 : @Nat)), (AV.ptr (2 : @Nat) (0 : @Nat)), (AV.ptr (3 : @Nat) (0 : @Nat)), (AV.ptr (4 : @Nat) (0 : @Nat)), (AV.ptr (5 : @Nat) (0 : @Nat)), (AV.ptr (6 : @Nat) (0 : @Nat)), (AV.ptr (7 : @Nat) (0 : @Nat)), (AV.ptr (8 : @Nat) (0 : @Nat)), (AV.lit (Value.int @IntKind.u64 (0 : @Int))), (AV.lit (Value.int @IntKind.u64 (0 : @Int))), (AV.lit (Value.slice (@Option.none @Addr) (0 : @Nat) (0 : @Nat)))])))) = @Bool.true) ∧
  ((@Option.isSome @AObj (@Option.some @AObj (@AObj.cells (152 : @TypeId) (@Cs.av [(AV.ptr (9 : @Nat) (0 : @Nat)), (AV.lit (Value.int @IntKind.u32 (1 : @Int))), (AV.lit (Value.int @IntKind.i32 (0 : @Int))), (AV.lit (Value.int @IntKind.u32 (0 : @Int)))])))) = @Bool.true))))) (((@List.length @AV [(AV.lit (Value.int @IntKind.i64 (@Cll.kind x_1))), (AV.lit (Value.string (@Cll.key x_1))), (AV.lit (Value.string (@Cll.value x_1))), (AV.lit (Value.string (@Cll.to x_1))), (AV.lit (Value.slice (@Option.none @Addr) (0 : @Nat) (0 : @Nat))), (AV.lit (Value.int @IntKind.i64 (10 : @Int))), (AV.lit (Value.int @IntKind.u64 (1 : @Int))), (AV.lit (Value.string @es)), (AV.lit (Value.bool @Bool.false)), (AV.lit (Value.int @IntKind.i64 (0 : @Int))), (AV.lit (Value.bool @Bool.false)), (AV.lit (Value.string @es)), (AV.lit (Value.int @IntKind.u64 (0 : @Int))), (AV.lit (Value.int @IntKind.u64 (0 : @Int))), (AV.lit (Value.int @IntKind.i64 (0 : @Int))), (AV.lit (Value.int @IntKind.i64 (0 : @Int))), (AV.lit (Value.int @IntKind.i64 (-(1 : @Int)))), (AV.lit (Value.int @IntKind.i64 (0 : @Int))), (AV.lit (Value.int @IntKind.i64 (0 : @Int))), (AV.lit (Value.slice (@Option.none @Addr) (0 : @Nat) (0 : @Nat))), (AV.lit (Value.int @IntKind.i64 (0 : @Int))), (AV.lit (Value.slice (@Option.none @Addr) (0 : @Nat) (0 : @Nat))), (AV.lit (Value.int @IntKind.i64 (0 : @Int))), (AV.lit (Value.bool @Bool.false)), (AV.lit (Value.string @es)), (AV.lit (Value.slice (@Option.none @Addr) (0 : @Nat) (0 : @Nat))), (AV.lit (Value.slice (@Option.none @Addr) (0 : @Nat) (0 : @Nat))), (AV.lit (Value.int @IntKind.u64 (0 : @Int)))]) = (28 : @Nat)) ∧
  (((@List.all @AV [(AV.lit (Value.int @IntKind.i64 (@Cll.kind x_1))), (AV.lit (Value.string (@Cll.key x_1))), (AV.lit (Value.string (@Cll.value x_1))), (AV.lit (Value.string (@Cll.to x_1))), (AV.lit (Value.slice (@Option.none @Addr) (0 : @Nat) (0 : @Nat))), (AV.lit (Value.int @IntKind.i64 (10 : @Int))), (AV.lit (Value.int @IntKind.u64 (1 : @Int))), (AV.lit (Value.string @es)), (AV.lit (Value.bool @Bool.false)), (AV.lit (Value.int @IntKind.i64 (0 : @Int))), (AV.lit (Value.bool @Bool.false)), (AV.lit (Value.string @es)), (AV.lit (Value.int @IntKind.u64 (0 : @Int))), (AV.lit (Value.int @IntKind.u64 (0 : @Int))), (AV.lit (Value.int @IntKind.i64 (0 : @Int))), (AV.lit (Value.int @IntKind.i64 (0 : @Int))), (AV.lit (Value.int @IntKind.i64 (-(1 : @Int)))), (AV.lit (Value.int @IntKind.i64 (0 : @Int))), (AV.lit (Value.int @IntKind.i64 (0 : @Int))), (AV.lit (Value.slice (@Option.none @Addr) (0 : @Nat) (0 : @Nat))), (AV.lit (Value.int @IntKind.i64 (0 : @Int))), (AV.lit (Value.slice (@Option.none @Addr) (0 : @Nat) (0 : @Nat))), (AV.lit (Value.int @IntKind.i64 (0 : @Int))), (AV.lit (Value.bool @Bool.false)), (AV.lit (Value.string @es)), (AV.lit (Value.slice (@Option.none @Addr) (0 : @Nat) (0 : @Nat))), (AV.lit (Value.slice (@Option.none @Addr) (0 : @Nat) (0 : @Nat))), (AV.lit (Value.int @IntKind.u64 (0 : @Int)))] @oneCell) = @Bool.true) ∧
  (((0 : @Int) = (0 : @Int)) ∧
  (((@Option.isSome @AObj (@Option.some @AObj (@AObj.cells (117 : @TypeId) (@Cs.av [(AV.ptr (1 : @Nat) (0 : @Nat)), (AV.ptr (2 : @Nat) (0 : @Nat)), (AV.ptr (3 : @Nat) (0 : @Nat)), (AV.ptr (4 : @Nat) (0 : @Nat)), (AV.ptr (5 : @Nat) (0 : @Nat)), (AV.ptr (6 : @Nat) (0 : @Nat)), (AV.ptr (7 : @Nat) (0 : @Nat)), (AV.ptr (8 : @Nat) (0 : @Nat)), (AV.lit (Value.int @IntKind.u64 (0 : @Int))), (AV.lit (Value.int @IntKind.u64 (0 : @Int))), (AV.lit (Value.slice (@Option.none @Addr) (0 : @Nat) (0 : @Nat)))])))) = @Bool.true) ∧
  ((@Option.isSome @AObj (@Option.some @AObj (@AObj.cells (152 : @TypeId) (@Cs.av [(AV.ptr (9 : @Nat) (0 : @Nat)), (AV.lit (Value.int @IntKind.u32 (1 : @Int))), (AV.lit (Value.int @IntKind.i32 (0 : @Int))), (AV.lit (Value.int @IntKind.u32 (0 : @Int)))])))) = @Bool.true))))))))))))
theorem kS8NVC_ok (x : Own × Cll) : kS8NVC x = kS8NVC_wp x := by kernel_rfl
def kS8WVC_wp (x : Own × CP) : Prop := wpF Tryz.prog tblK8 tt noAn 200 8 14 (kS8W.args x) (openH 0 (hO 2 [.abs x.1, roomC x.2.cs]) (hO sSAM sSAO)) okK8
def kS8WVC (x : Own × CP) : Prop :=
  (∃ (x_1 : @CP), ((@Hd (@CP.ok x_1)) ∧
  (((((@Cll.kind (@CP.c x_1)) = (@Cll.kind (@CP.c (@Prod.snd @Own @CP x)))) ∧
  (((@Cll.key (@CP.c x_1)) = (@Cll.key (@CP.c (@Prod.snd @Own @CP x)))) ∧
  (((@Cll.value (@CP.c x_1)) = (@Cll.value (@CP.c (@Prod.snd @Own @CP x)))) ∧
  (((@Cll.to (@CP.c x_1)) = (@Cll.to (@CP.c (@Prod.snd @Own @CP x)))) ∧
  ((((0 : @Nat) = (0 : @Nat)) ∧
  ((@Cll.gn (@CP.c x_1)) = (@Cll.gn (@CP.c (@Prod.snd @Own @CP x))))) ∧
  (((0 : @Int) = (0 : @Int)) ∧
  (((0 : @Int) = (0 : @Int)) ∧
  ((@es = @es) ∧
  ((@Bool.false = @Bool.false) ∧
  (((0 : @Int) = (0 : @Int)) ∧
  ((@Bool.false = @Bool.false) ∧
  ((@es = @es) ∧
  (((0 : @Int) = (0 : @Int)) ∧
  (((0 : @Int) = (0 : @Int)) ∧
  (((0 : @Int) = (0 : @Int)) ∧
  (((0 : @Int) = (0 : @Int)) ∧
  (((-(1 : @Int)) = (-(1 : @Int))) ∧
  (((0 : @Int) = (0 : @Int)) ∧
  (((0 : @Int) = (0 : @Int)) ∧
  (((Value.slice (@Option.none @Addr) (0 : @Nat) (0 : @Nat)) = (Value.slice (@Option.none @Addr) (0 : @Nat) (0 : @Nat))) ∧
  (((0 : @Int) = (0 : @Int)) ∧
  (((Value.slice (@Option.none @Addr) (0 : @Nat) (0 : @Nat)) = (Value.slice (@Option.none @Addr) (0 : @Nat) (0 : @Nat))) ∧
  (((0 : @Int) = (0 : @Int)) ∧
  ((@Bool.false = @Bool.false) ∧
  ((@es = @es) ∧
  (((Value.slice (@Option.none @Addr) (0 : @Nat) (0 : @Nat)) = (Value.slice (@Option.none @Addr) (0 : @Nat) (0 : @Nat))) ∧
  (((Value.slice (@Option.none @Addr) (0 : @Nat) (0 : @Nat)) = (Value.slice (@Option.none @Addr) (0 : @Nat) (0 : @Nat))) ∧
  (((0 : @Int) = (0 : @Int)) ∧
  True)))))))))))))))))))))))))))) ∧
  True) ∧
  (((((@Cll.gn (@CP.c x_1)) = (@Cll.gn (@CP.c (@Prod.snd @Own @CP x)))) ∧
  (∀ (q : @Nat), ((q < (@Cll.gn (@CP.c x_1))) → ([(Value.int @IntKind.i64 (@Mem.kind (@Cll.g (@CP.c x_1) q))), (Value.string (@Mem.key (@Cll.g (@CP.c x_1) q))), (Value.string (@Mem.value (@Cll.g (@CP.c x_1) q))), (Value.string (@Mem.to (@Cll.g (@CP.c x_1) q))), (Value.slice (@CP.p x_1 q) (0 : @Nat) (0 : @Nat))] = [(Value.int @IntKind.i64 (@Mem.kind (@Cll.g (@CP.c (@Prod.snd @Own @CP x)) q))), (Value.string (@Mem.key (@Cll.g (@CP.c (@Prod.snd @Own @CP x)) q))), (Value.string (@Mem.value (@Cll.g (@CP.c (@Prod.snd @Own @CP x)) q))), (Value.string (@Mem.to (@Cll.g (@CP.c (@Prod.snd @Own @CP x)) q))), (Value.slice (@CP.p (@Prod.snd @Own @CP x) q) (0 : @Nat) (0 : @Nat))])))) ∧
  True) ∧
  (∀ (y : (@Out.Y (@Ctr.X @cloneFW) (@Out.mk @CP @PS (fun (x_2 : @CP) => (fun (x_3 : @PS) => True)) (fun (x_2 : @CP) => (fun (x_3 : @PS) => (@Cll.frW (@CP.c x_2) (1 : @Nat)))) (2 : @Nat) (fun (x_2 : @CP) => (fun (ps : @PS) => [(@roomC (@CP.cs x_2)), (@roomC (@rowP (@CP.c x_2) ps))]))))), (True → (cP (@bne @Int (@instBEqOfDecidableEq @Int @Int.instDecidableEq) (@Cll.kind (@CP.c x_1)) (8 : @Int)) (((@List.length @AV [(AV.lit (Value.int @IntKind.i64 (@Cll.kind (@CP.c x_1)))), (AV.lit (Value.string (@Cll.key (@CP.c x_1)))), (AV.lit (Value.string (@Cll.value (@CP.c x_1)))), (AV.lit (Value.string (@Cll.to (@CP.c x_1)))), (AV.slW (25 : Nat) (0 : @Nat) (5 : @Nat) (@Cll.gn (@CP.c x_1))), (AV.lit (Value.int @IntKind.i64 (0 : @Int))), (AV.lit (Value.int @IntKind.u64 (0 : @Int))), (AV.lit (Value.string @es)), (AV.lit (Value.bool @Bool.false)), (AV.lit (Value.int @IntKind.i64 (0 : @Int))), (AV.lit (Value.bool @Bool.false)), (AV.lit (Value.string @es)), (AV.lit (Value.int @IntKind.u64 (0 : @Int))), (AV.lit (Value.int @IntKind.u64 (0 : @Int))), (AV.lit (Value.int @IntKind.i64 (0 : @Int))), (AV.lit (Value.int @IntKind.i64 (0 : @Int))), (AV.lit (Value.int @IntKind.i64 (-(1 : @Int)))), (AV.lit (Value.int @IntKind.i64 (0 : @Int))), (AV.lit (Value.int @IntKind.i64 (0 : @Int))), (AV.lit (Value.slice (@Option.none @Addr) (0 : @Nat) (0 : @Nat))), (AV.lit (Value.int @IntKind.i64 (0 : @Int))), (AV.lit (Value.slice (@Option.none @Addr) (0 : @Nat) (0 : @Nat))), (AV.lit (Value.int @IntKind.i64 (0 : @Int))), (AV.lit (Value.bool @Bool.false)), (AV.lit (Value.string @es)), (AV.lit (Value.slice (@Option.none @Addr) (0 : @Nat) (0 : @Nat))), (AV.lit (Value.slice (@Option.none @Addr) (0 : @Nat) (0 : @Nat))), (AV.lit (Value.int @IntKind.u64 (0 : @Int)))]) = (28 : @Nat)) ∧
  (((@List.all @AV [(AV.lit (Value.int @IntKind.i64 (@Cll.kind (@CP.c x_1)))), (AV.lit (Value.string (@Cll.key (@CP.c x_1)))), (AV.lit (Value.string (@Cll.value (@CP.c x_1)))), (AV.lit (Value.string (@Cll.to (@CP.c x_1)))), (AV.slW (25 : Nat) (0 : @Nat) (5 : @Nat) (@Cll.gn (@CP.c x_1))), (AV.lit (Value.int @IntKind.i64 (0 : @Int))), (AV.lit (Value.int @IntKind.u64 (0 : @Int))), (AV.lit (Value.string @es)), (AV.lit (Value.bool @Bool.false)), (AV.lit (Value.int @IntKind.i64 (0 : @Int))), (AV.lit (Value.bool @Bool.false)), (AV.lit (Value.string @es)), (AV.lit (Value.int @IntKind.u64 (0 : @Int))), (AV.lit (Value.int @IntKind.u64 (0 : @Int))), (AV.lit (Value.int @IntKind.i64 (0 : @Int))), (AV.lit (Value.int @IntKind.i64 (0 : @Int))), (AV.lit (Value.int @IntKind.i64 (-(1 : @Int)))), (AV.lit (Value.int @IntKind.i64 (0 : @Int))), (AV.lit (Value.int @IntKind.i64 (0 : @Int))), (AV.lit (Value.slice (@Option.none @Addr) (0 : @Nat) (0 : @Nat))), (AV.lit (Value.int @IntKind.i64 (0 : @Int))), (AV.lit (Value.slice (@Option.none @Addr) (0 : @Nat) (0 : @Nat))), (AV.lit (Value.int @IntKind.i64 (0 : @Int))), (AV.lit (Value.bool @Bool.false)), (AV.lit (Value.string @es)), (AV.lit (Value.slice (@Option.none @Addr) (0 : @Nat) (0 : @Nat))), (AV.lit (Value.slice (@Option.none @Addr) (0 : @Nat) (0 : @Nat))), (AV.lit (Value.int @IntKind.u64 (0 : @Int)))] @oneCell) = @Bool.true) ∧
  (((0 : @Int) = (0 : @Int)) ∧
  (((@Option.isSome @AObj (@Option.some @AObj (@AObj.cells (117 : @TypeId) (@Cs.av [(AV.ptr (2 : @Nat) (0 : @Nat)), (AV.ptr (3 : @Nat) (0 : @Nat)), (AV.ptr (4 : @Nat) (0 : @Nat)), (AV.ptr (5 : @Nat) (0 : @Nat)), (AV.ptr (6 : @Nat) (0 : @Nat)), (AV.ptr (7 : @Nat) (0 : @Nat)), (AV.ptr (8 : @Nat) (0 : @Nat)), (AV.ptr (9 : @Nat) (0 : @Nat)), (AV.lit (Value.int @IntKind.u64 (0 : @Int))), (AV.lit (Value.int @IntKind.u64 (0 : @Int))), (AV.lit (Value.slice (@Option.none @Addr) (0 : @Nat) (0 : @Nat)))])))) = @Bool.true) ∧
  ((@Option.isSome @AObj (@Option.some @AObj (@AObj.room (24 : @TypeId) (@Cs.row (5 : @Nat) (@Cll.gn (@CP.c x_1)) (fun (k : @Nat) => (@Mem.cellsP (@Cll.g (@CP.c x_1) k) (@CP.p x_1 k))) (@List.nil (@Prod @Nat (@List @Value))))))) = @Bool.true))))) (((@List.length @AV [(AV.lit (Value.int @IntKind.i64 (@Cll.kind (@CP.c x_1)))), (AV.lit (Value.string (@Cll.key (@CP.c x_1)))), (AV.lit (Value.string (@Cll.value (@CP.c x_1)))), (AV.lit (Value.string (@Cll.to (@CP.c x_1)))), (AV.slW (25 : Nat) (0 : @Nat) (5 : @Nat) (@Cll.gn (@CP.c x_1))), (AV.lit (Value.int @IntKind.i64 (10 : @Int))), (AV.lit (Value.int @IntKind.u64 (1 : @Int))), (AV.lit (Value.string @es)), (AV.lit (Value.bool @Bool.false)), (AV.lit (Value.int @IntKind.i64 (0 : @Int))), (AV.lit (Value.bool @Bool.false)), (AV.lit (Value.string @es)), (AV.lit (Value.int @IntKind.u64 (0 : @Int))), (AV.lit (Value.int @IntKind.u64 (0 : @Int))), (AV.lit (Value.int @IntKind.i64 (0 : @Int))), (AV.lit (Value.int @IntKind.i64 (0 : @Int))), (AV.lit (Value.int @IntKind.i64 (-(1 : @Int)))), (AV.lit (Value.int @IntKind.i64 (0 : @Int))), (AV.lit (Value.int @IntKind.i64 (0 : @Int))), (AV.lit (Value.slice (@Option.none @Addr) (0 : @Nat) (0 : @Nat))), (AV.lit (Value.int @IntKind.i64 (0 : @Int))), (AV.lit (Value.slice (@Option.none @Addr) (0 : @Nat) (0 : @Nat))), (AV.lit (Value.int @IntKind.i64 (0 : @Int))), (AV.lit (Value.bool @Bool.false)), (AV.lit (Value.string @es)), (AV.lit (Value.slice (@Option.none @Addr) (0 : @Nat) (0 : @Nat))), (AV.lit (Value.slice (@Option.none @Addr) (0 : @Nat) (0 : @Nat))), (AV.lit (Value.int @IntKind.u64 (0 : @Int)))]) = (28 : @Nat)) ∧
  (((@List.all @AV [(AV.lit (Value.int @IntKind.i64 (@Cll.kind (@CP.c x_1)))), (AV.lit (Value.string (@Cll.key (@CP.c x_1)))), (AV.lit (Value.string (@Cll.value (@CP.c x_1)))), (AV.lit (Value.string (@Cll.to (@CP.c x_1)))), (AV.slW (25 : Nat) (0 : @Nat) (5 : @Nat) (@Cll.gn (@CP.c x_1))), (AV.lit (Value.int @IntKind.i64 (10 : @Int))), (AV.lit (Value.int @IntKind.u64 (1 : @Int))), (AV.lit (Value.string @es)), (AV.lit (Value.bool @Bool.false)), (AV.lit (Value.int @IntKind.i64 (0 : @Int))), (AV.lit (Value.bool @Bool.false)), (AV.lit (Value.string @es)), (AV.lit (Value.int @IntKind.u64 (0 : @Int))), (AV.lit (Value.int @IntKind.u64 (0 : @Int))), (AV.lit (Value.int @IntKind.i64 (0 : @Int))), (AV.lit (Value.int @IntKind.i64 (0 : @Int))), (AV.lit (Value.int @IntKind.i64 (-(1 : @Int)))), (AV.lit (Value.int @IntKind.i64 (0 : @Int))), (AV.lit (Value.int @IntKind.i64 (0 : @Int))), (AV.lit (Value.slice (@Option.none @Addr) (0 : @Nat) (0 : @Nat))), (AV.lit (Value.int @IntKind.i64 (0 : @Int))), (AV.lit (Value.slice (@Option.none @Addr) (0 : @Nat) (0 : @Nat))), (AV.lit (Value.int @IntKind.i64 (0 : @Int))), (AV.lit (Value.bool @Bool.false)), (AV.lit (Value.string @es)), (AV.lit (Value.slice (@Option.none @Addr) (0 : @Nat) (0 : @Nat))), (AV.lit (Value.slice (@Option.none @Addr) (0 : @Nat) (0 : @Nat))), (AV.lit (Value.int @IntKind.u64 (0 : @Int)))] @oneCell) = @Bool.true) ∧
  (((0 : @Int) = (0 : @Int)) ∧
  (((@Option.isSome @AObj (@Option.some @AObj (@AObj.cells (117 : @TypeId) (@Cs.av [(AV.ptr (2 : @Nat) (0 : @Nat)), (AV.ptr (3 : @Nat) (0 : @Nat)), (AV.ptr (4 : @Nat) (0 : @Nat)), (AV.ptr (5 : @Nat) (0 : @Nat)), (AV.ptr (6 : @Nat) (0 : @Nat)), (AV.ptr (7 : @Nat) (0 : @Nat)), (AV.ptr (8 : @Nat) (0 : @Nat)), (AV.ptr (9 : @Nat) (0 : @Nat)), (AV.lit (Value.int @IntKind.u64 (0 : @Int))), (AV.lit (Value.int @IntKind.u64 (0 : @Int))), (AV.lit (Value.slice (@Option.none @Addr) (0 : @Nat) (0 : @Nat)))])))) = @Bool.true) ∧
  ((@Option.isSome @AObj (@Option.some @AObj (@AObj.room (24 : @TypeId) (@Cs.row (5 : @Nat) (@Cll.gn (@CP.c x_1)) (fun (k : @Nat) => (@Mem.cellsP (@Cll.g (@CP.c x_1) k) (@CP.p x_1 k))) (@List.nil (@Prod @Nat (@List @Value))))))) = @Bool.true))))))))))))
theorem kS8WVC_ok (x : Own × CP) : kS8WVC x = kS8WVC_wp x := by kernel_rfl
end Go.Proofs.YtnlpcbdmllpddaaGreat
end
section
/- A keeper without an arena, a sync: what is asked is so. -/
namespace Go.Proofs.YtnlpcbdmllpddaaGreat
open Go SE
theorem kSt_ok : CtrOk Tryz.prog 13 kStC := ctr_endL tt_ok mixed .nil (C := kStC) (fun _ => noAn) 200 6 (fun _ => rfl) (fun _ => ⟨fun _ => rfl, trivial⟩) fun x _ => Eq.mp (kStVC_ok x) (by
  unfold kStVC
  simp only [hd_iff, and_true, true_and, Nat.zero_add, Nat.add_zero, unit_ex, unit_all, true_implies, implies_true, Int.toNat_natCast, eq_self, and_self]
  exact cP_intro (fun _ => trivial) fun _ => cP_intro (fun _ => trivial) fun _ => cP_intro (fun _ => trivial) fun _ => trivial)
theorem tblKs_ok : TblOk Tryz.prog [(45, cloneT), (24, stopT)] := .cons cloneT_ok (.cons stopT_ok .nil)
theorem kSyNVC_true (x : Int × Cll) : kSyNVC x := by
  unfold kSyNVC
  simp only [hd_iff, and_true, true_and, Nat.zero_add, Nat.add_zero, unit_ex, unit_all, true_implies, implies_true, Int.toNat_natCast, eq_self, and_self, es_eq]
  exact ⟨x.2, ⟨rfl, rfl, rfl, rfl⟩, rfl, rfl, rfl, rfl⟩
theorem kSyN_ok : CtrOk Tryz.prog 14 kSyN := ctr_endL tt_ok mixed tblKs_ok (C := kSyN) (fun _ => noAn) 200 6 (fun _ => rfl) (fun _ => ⟨fun _ => rfl, trivial⟩) fun x _ => Eq.mp (kSyNVC_ok x) (kSyNVC_true x)
theorem kSyWVC_true (x : Int × CP) (hx : x.2.ok) : kSyWVC x := by
  unfold kSyWVC
  simp only [hd_iff, and_true, true_and, Nat.zero_add, Nat.add_zero, unit_ex, unit_all, true_implies, implies_true, Int.toNat_natCast, eq_self, and_self, es_eq]
  exact ⟨x.2, hx, ⟨rfl, rfl, rfl, rfl, rfl⟩, ⟨rfl, fun _ _ => rfl⟩, fun y => ⟨y, ⟨rfl, rfl, rfl, rfl, rfl⟩, ⟨rfl, fun _ _ => rfl⟩, rfl, fun _ _ => rfl⟩⟩
theorem kSyW_ok : CtrOk Tryz.prog 14 kSyW := ctr_endL tt_ok mixed tblKs_ok (C := kSyW) (fun _ => noAn) 200 6 (fun _ => rfl) (fun _ => ⟨fun _ => rfl, trivial⟩) fun x hx => Eq.mp (kSyWVC_ok x) (kSyWVC_true x (hd_iff.1 hx))
theorem kSaNVC_true (x : Own × Cll) (hx : x.2.kind ≠ 8) : kSaNVC x := by
  unfold kSaNVC
  simp only [hd_iff, and_true, true_and, Nat.zero_add, Nat.add_zero, unit_ex, unit_all, true_implies, implies_true, Int.toNat_natCast, eq_self, and_self, es_eq]
  refine ⟨x.2, ⟨rfl, rfl, rfl, rfl⟩, ?_⟩
  have hk8 : (x.2.kind != 8) = true := by simp [hx]
  simp only [hk8, cP, and_self]
theorem kSaN_ok : CtrOk Tryz.prog 14 kSaN := ctr_endL tt_ok mixed tblKs_ok (C := kSaN) (fun _ => noAn) 200 6 (fun _ => rfl) (fun _ => ⟨fun _ => rfl, trivial⟩) fun x hx => Eq.mp (kSaNVC_ok x) (kSaNVC_true x (hd_iff.1 hx))
theorem kSaWVC_true (x : Own × CP) (hx : x.2.ok ∧ x.2.c.kind ≠ 8) : kSaWVC x := by
  unfold kSaWVC
  obtain ⟨hx, hk⟩ := hx
  simp only [hd_iff, and_true, true_and, Nat.zero_add, Nat.add_zero, unit_ex, unit_all, true_implies, implies_true, Int.toNat_natCast, eq_self, and_self, es_eq]
  refine ⟨x.2, hx, ⟨rfl, rfl, rfl, rfl, rfl⟩, ⟨rfl, fun _ _ => rfl⟩, fun y => ?_⟩
  have hk8 : (x.2.c.kind != 8) = true := by simp [hk]
  simp only [hk8, cP, and_self]
  exact ⟨y, by simp⟩
theorem kSaW_ok : CtrOk Tryz.prog 14 kSaW := ctr_endL tt_ok mixed tblKs_ok (C := kSaW) (fun _ => noAn) 200 6 (fun _ => rfl) (fun _ => ⟨fun _ => rfl, trivial⟩) fun x hx => Eq.mp (kSaWVC_ok x) (kSaWVC_true x (hd_iff.1 hx))
theorem kS8NVC_true (x : Own × Cll) : kS8NVC x := by
  unfold kS8NVC
  simp only [hd_iff, and_true, true_and, Nat.zero_add, Nat.add_zero, unit_ex, unit_all, true_implies, implies_true, Int.toNat_natCast, eq_self, and_self, es_eq]
  refine ⟨x.2, ⟨rfl, rfl, rfl, rfl⟩, ?_⟩
  first | exact cP_intro (fun _ => ⟨rfl, rfl, rfl, rfl⟩) (fun _ => ⟨rfl, rfl, rfl, rfl⟩) | exact cP_intro (fun _ => by simp) (fun _ => by simp)
theorem kS8N_ok : CtrOk Tryz.prog 14 kS8N := fun x hx => by
  obtain ⟨o, c⟩ := x
  have ho : o = mkOwn (memIs sSAM sSAO) := hd_iff.1 hx
  have hs : Sp Tryz.prog 14 (kS8N.args (o, c)) (openH 0 (hO 1 [.abs o]) (hO sSAM sSAO)) okK8 := wpF_ok tt_ok mixed tblK8_ok noAn 200 8 _ _ _ _ (Eq.mp (kS8NVC_ok (o, c)) (kS8NVC_true (o, c)))
  subst ho
  refine ⟨rfl, sp_openq (i := 0) (Φ := memIs sSAM sSAO) rfl hs.1 fun h0 hh => ?_⟩
  have hh : h0 = hO sSAM sSAO := hh
  subst hh
  exact hs.mono fun v h' hk => ⟨_, _, okK8_leq hk 1 (by omega), by with_unfolding_all exact Or.inl ⟨(), trivial, rfl, rfl⟩⟩
theorem kS8WVC_true (x : Own × CP) (hx : x.2.ok) : kS8WVC x := by
  unfold kS8WVC
  simp only [hd_iff, and_true, true_and, Nat.zero_add, Nat.add_zero, unit_ex, unit_all, true_implies, implies_true, Int.toNat_natCast, eq_self, and_self, es_eq]
  refine ⟨x.2, hx, ⟨rfl, rfl, rfl, rfl, rfl⟩, ⟨rfl, fun _ _ => rfl⟩, fun y => ?_⟩
  first | exact cP_intro (fun _ => ⟨rfl, rfl, rfl, rfl⟩) (fun _ => ⟨rfl, rfl, rfl, rfl⟩) | exact cP_intro (fun _ => by simp) (fun _ => by simp)
theorem kS8W_ok : CtrOk Tryz.prog 14 kS8W := fun x hx => by
  obtain ⟨o, c⟩ := x
  obtain ⟨ho, hc⟩ := hd_iff.1 hx
  have ho : o = mkOwn (memIs sSAM sSAO) := ho
  have hs : Sp Tryz.prog 14 (kS8W.args (o, c)) (openH 0 (hO 2 [.abs o, roomC c.cs]) (hO sSAM sSAO)) okK8 := wpF_ok tt_ok mixed tblK8_ok noAn 200 8 _ _ _ _ (Eq.mp (kS8WVC_ok (o, c)) (kS8WVC_true (o, c) hc))
  subst ho
  refine ⟨rfl, sp_openq (i := 0) (Φ := memIs sSAM sSAO) rfl hs.1 fun h0 hh => ?_⟩
  have hh : h0 = hO sSAM sSAO := hh
  subst hh
  exact hs.mono fun v h' hk => ⟨_, _, okK8_leq hk 2 (by omega), by with_unfolding_all exact Or.inl ⟨(), trivial, rfl, rfl⟩⟩
noncomputable section
/-- A sync, with an arena. -/
def kSxN : Ctr := { X := Own × Cll, args := fun x => [.ptr 0 0, i64 0, x.2.frN], k := 1, os := fun x => [.abs x.1], pre := fun x => Hd (isMem sSAM sSAO x.1), outs := [
  { Y := Unit, post := fun x _ => Hd (x.2.kind ≠ 8), ret := fun x _ => .tup [x.2.frN, i64 0], m := 1, os := fun x _ => [.abs x.1] },
  { Y := Unit, post := fun x _ => Hd (x.2.kind = 8), ret := fun _ _ => .tup [anyF, i64 0], m := 1, os := fun _ _ => [.abs trivO] }] }
def kSxW : Ctr := { X := Own × CP, args := fun x => [.ptr 0 0, i64 0, x.2.c.frW 1], k := 2, os := fun x => [.abs x.1, roomC x.2.cs], pre := fun x => Hd (isMem sSAM sSAO x.1 ∧ x.2.ok), outs := [
  { Y := PS, post := fun x _ => Hd (x.2.c.kind ≠ 8), ret := fun x _ => .tup [x.2.c.frW 2, i64 0], m := 3, os := fun x ps => [.abs x.1, roomC x.2.cs, roomC (rowP x.2.c ps)] },
  { Y := Unit, post := fun x _ => Hd (x.2.c.kind = 8), ret := fun _ _ => .tup [anyF, i64 0], m := 2, os := fun _ _ => [.abs trivO, .abs trivO] }] }
end
theorem kSxN_ok : CtrOk Tryz.prog 14 kSxN := fun x hx => by
  by_cases hk : x.2.kind = 8
  · exact ⟨rfl, (kS8N_ok x hx).2.mono fun v h' hh => by with_unfolding_all exact hh.elim (fun ⟨y, _, h1, h2⟩ => .inr (.inl ⟨(), hd_iff.2 hk, h1, h2⟩)) (fun hh => hh.elim)⟩
  · exact ⟨rfl, (kSaN_ok x (hd_iff.2 hk)).2.mono fun v h' hh => by with_unfolding_all exact hh.elim (fun ⟨y, _, h1, h2⟩ => .inl ⟨(), hd_iff.2 hk, h1, h2⟩) (fun hh => hh.elim)⟩
theorem kSxW_ok : CtrOk Tryz.prog 14 kSxW := fun x hx => by
  by_cases hk : x.2.c.kind = 8
  · exact ⟨rfl, (kS8W_ok x hx).2.mono fun v h' hh => by with_unfolding_all exact hh.elim (fun ⟨y, _, h1, h2⟩ => .inr (.inl ⟨(), hd_iff.2 hk, h1, h2⟩)) (fun hh => hh.elim)⟩
  · exact ⟨rfl, (kSaW_ok x (hd_iff.2 ⟨(hd_iff.1 hx).2, hk⟩)).2.mono fun v h' hh => by with_unfolding_all exact hh.elim (fun ⟨y, _, h1, h2⟩ => .inl ⟨y, hd_iff.2 hk, h1, h2⟩) (fun hh => hh.elim)⟩
end Go.Proofs.YtnlpcbdmllpddaaGreat
end
section
/- KeeperNone: tables. -/
namespace Go.Proofs.YtnlpcbdmllpddaaGreat
open Go SE
noncomputable section
def anyA : List AV → Bool
  | .agg (.one :: _) :: _ => true
  | _ => false
def sameTk : WTr := fun args h K => bif anyA args then False else sameT args h K
theorem sameTk_ok (args : List AV) (h : Heap) (K : AV → Heap → Prop) (hq : sameTk args h K) : Sp Tryz.prog 16 args h K := by
  unfold sameTk at hq
  cases hb : anyA args <;> rw [hb] at hq
  · exact sameT_ok _ _ _ hq
  · exact hq.elim
def syncT : WTr := nilT (pickT (ctrT kSyW) (ctrT kSyN)) (pickT (ctrT kSxW) (ctrT kSxN))
theorem syncT_ok : ∀ args h K, syncT args h K → Sp Tryz.prog 14 args h K := nilT_ok (pickT_ok (ctrT_ok kSyW_ok) (ctrT_ok kSyN_ok)) (pickT_ok (ctrT_ok kSxW_ok) (ctrT_ok kSxN_ok))
def tblK : WTbl := [(9, ctrT weightC), (12, ctrT copyC), (11, beginT), (15, ctrT newC), (16, sameTk), (13, ctrT kStC), (14, syncT), (10, ctrT sayC)]
end
end Go.Proofs.YtnlpcbdmllpddaaGreat
end
section
/- KeeperNone: what is asked. -/
namespace Go.Proofs.YtnlpcbdmllpddaaGreat
open Go SE
def kNoneVC_wp (c : Cll) (p l r : Int) : Prop := wpF Tryz.prog tblK tt noAn 400 6 3 [i64 p, i64 l, i64 r, c.av 0] (hO 1 c.os) (fun v _ => v = boo true)
def kNoneVC (c : Cll) (p l r : Int) : Prop :=
  (∃ (x : @Cll), (True ∧
  (((((@Cll.kind x) = (@Cll.kind c)) ∧
  (((@Cll.key x) = (@Cll.key c)) ∧
  (((@Cll.value x) = (@Cll.value c)) ∧
  (((@Cll.to x) = (@Cll.to c)) ∧
  ((((0 : @Nat) = (0 : @Nat)) ∧
  ((@Cll.gn x) = (@Cll.gn c))) ∧
  True))))) ∧
  (((600 : @Int) = (600 : @Int)) ∧
  True)) ∧
  (((((@Cll.gn x) = (@Cll.gn c)) ∧
  (∀ (q : @Nat), ((q < (@Cll.gn x)) → ([(Value.int @IntKind.i64 (@Mem.kind (@Cll.g x q))), (Value.string (@Mem.key (@Cll.g x q))), (Value.string (@Mem.value (@Cll.g x q))), (Value.string (@Mem.to (@Cll.g x q))), (Value.slice (@Mem.gp (@Cll.g x q)) (@Mem.gn (@Cll.g x q)) (@Mem.gc (@Cll.g x q)))] = [(Value.int @IntKind.i64 (@Mem.kind (@Cll.g c q))), (Value.string (@Mem.key (@Cll.g c q))), (Value.string (@Mem.value (@Cll.g c q))), (Value.string (@Mem.to (@Cll.g c q))), (Value.slice (@Mem.gp (@Cll.g c q)) (@Mem.gn (@Cll.g c q)) (@Mem.gc (@Cll.g c q)))])))) ∧
  True) ∧
  (∀ (y : @Int), ((@Hd ((y ≤ (600 : @Int)) → (@Cll.small x))) → (cP (decide (@GT.gt @Int @Int.instLTInt y (600 : @Int))) (∃ (x_1 : Unit), (True ∧
  (True ∧
  (True ∧
  (∀ (y_1 : Unit), (True → ((AV.lit (Value.bool @Bool.true)) = (AV.lit (Value.bool @Bool.true))))))))) (∃ (x_1 : @Cll), ((@Hd (@Cll.small x_1)) ∧
  (((((@Cll.kind x_1) = (@Cll.kind c)) ∧
  (((@Cll.key x_1) = (@Cll.key c)) ∧
  (((@Cll.value x_1) = (@Cll.value c)) ∧
  (((@Cll.to x_1) = (@Cll.to c)) ∧
  ((((0 : @Nat) = (0 : @Nat)) ∧
  ((@Cll.gn x_1) = (@Cll.gn c))) ∧
  True))))) ∧
  True) ∧
  (((((@Cll.gn x_1) = (@Cll.gn c)) ∧
  (∀ (q : @Nat), ((q < (@Cll.gn x_1)) → ([(Value.int @IntKind.i64 (@Mem.kind (@Cll.g x_1 q))), (Value.string (@Mem.key (@Cll.g x_1 q))), (Value.string (@Mem.value (@Cll.g x_1 q))), (Value.string (@Mem.to (@Cll.g x_1 q))), (Value.slice (@Mem.gp (@Cll.g x_1 q)) (@Mem.gn (@Cll.g x_1 q)) (@Mem.gc (@Cll.g x_1 q)))] = [(Value.int @IntKind.i64 (@Mem.kind (@Cll.g c q))), (Value.string (@Mem.key (@Cll.g c q))), (Value.string (@Mem.value (@Cll.g c q))), (Value.string (@Mem.to (@Cll.g c q))), (Value.slice (@Mem.gp (@Cll.g c q)) (@Mem.gn (@Cll.g c q)) (@Mem.gc (@Cll.g c q)))])))) ∧
  True) ∧
  ((∀ (y_1 : Unit), (True → (∃ (x_2 : @Cll), (True ∧
  (((((@Cll.kind x_2) = (@Cll.kind x_1)) ∧
  (((@Cll.key x_2) = (@Cll.key x_1)) ∧
  (((@Cll.value x_2) = (@Cll.value x_1)) ∧
  (((@Cll.to x_2) = (@Cll.to x_1)) ∧
  (((Value.slice (@Option.none @Addr) (0 : @Nat) (0 : @Nat)) = (Value.slice (@Option.none @Addr) (0 : @Nat) (0 : @Nat))) ∧
  True))))) ∧
  True) ∧
  (True ∧
  (∀ (y_2 : Unit), (True → (∃ (x_3 : (@Prod @Int (@Prod @Int @Int))), (True ∧
  ((((Value.pointer (@Option.none @Addr)) = (Value.pointer (@Option.none @Addr))) ∧
  ((((@Prod.fst @Int (@Prod @Int @Int) x_3) = p) ∧
  (((@Prod.fst @Int @Int (@Prod.snd @Int (@Prod @Int @Int) x_3)) = l) ∧
  True)) ∧
  (((@Prod.snd @Int @Int (@Prod.snd @Int (@Prod @Int @Int) x_3)) = r) ∧
  True))) ∧
  (True ∧
  (∀ (y_3 : Unit), (True → (∃ (x_4 : (@Prod @Int @Cll)), (True ∧
  ((((Value.pointer (@Option.none @Addr)) = (Value.pointer (@Option.none @Addr))) ∧
  (((@Prod.fst @Int @Cll x_4) = (0 : @Int)) ∧
  ((((@Cll.kind (@Prod.snd @Int @Cll x_4)) = (@Cll.kind x_2)) ∧
  (((@Cll.key (@Prod.snd @Int @Cll x_4)) = (@Cll.key x_2)) ∧
  (((@Cll.value (@Prod.snd @Int @Cll x_4)) = (@Cll.value x_2)) ∧
  (((@Cll.to (@Prod.snd @Int @Cll x_4)) = (@Cll.to x_2)) ∧
  (((Value.slice (@Option.none @Addr) (0 : @Nat) (0 : @Nat)) = (Value.slice (@Option.none @Addr) (0 : @Nat) (0 : @Nat))) ∧
  (((0 : @Int) = (0 : @Int)) ∧
  (((0 : @Int) = (0 : @Int)) ∧
  ((@es = @es) ∧
  ((@Bool.false = @Bool.false) ∧
  (((0 : @Int) = (0 : @Int)) ∧
  ((@Bool.false = @Bool.false) ∧
  ((@es = @es) ∧
  (((0 : @Int) = (0 : @Int)) ∧
  (((0 : @Int) = (0 : @Int)) ∧
  (((0 : @Int) = (0 : @Int)) ∧
  (((0 : @Int) = (0 : @Int)) ∧
  (((-(1 : @Int)) = (-(1 : @Int))) ∧
  (((0 : @Int) = (0 : @Int)) ∧
  (((0 : @Int) = (0 : @Int)) ∧
  (((Value.slice (@Option.none @Addr) (0 : @Nat) (0 : @Nat)) = (Value.slice (@Option.none @Addr) (0 : @Nat) (0 : @Nat))) ∧
  (((0 : @Int) = (0 : @Int)) ∧
  (((Value.slice (@Option.none @Addr) (0 : @Nat) (0 : @Nat)) = (Value.slice (@Option.none @Addr) (0 : @Nat) (0 : @Nat))) ∧
  (((0 : @Int) = (0 : @Int)) ∧
  ((@Bool.false = @Bool.false) ∧
  ((@es = @es) ∧
  (((Value.slice (@Option.none @Addr) (0 : @Nat) (0 : @Nat)) = (Value.slice (@Option.none @Addr) (0 : @Nat) (0 : @Nat))) ∧
  (((Value.slice (@Option.none @Addr) (0 : @Nat) (0 : @Nat)) = (Value.slice (@Option.none @Addr) (0 : @Nat) (0 : @Nat))) ∧
  (((0 : @Int) = (0 : @Int)) ∧
  True)))))))))))))))))))))))))))) ∧
  True))) ∧
  (True ∧
  (∀ (y_4 : Unit), (True → (∃ (x_5 : Unit), (True ∧
  ((((10 : @Int) = (10 : @Int)) ∧
  (((1 : @Int) = (1 : @Int)) ∧
  True)) ∧
  (True ∧
  (∀ (y_5 : @Own), ((@Hd (@isMem @sSAM @sSAO y_5)) → (cP (@Bool.not (@Bool.and (@BEq.beq @Int (@instBEqOfDecidableEq @Int @Int.instDecidableEq) (@Prod.fst @Int (@Prod @Int @Int) x_3) p) (@Bool.and (@BEq.beq @Int (@instBEqOfDecidableEq @Int @Int.instDecidableEq) (@Prod.fst @Int @Int (@Prod.snd @Int (@Prod @Int @Int) x_3)) l) @Bool.true))) ((AV.lit (Value.bool @Bool.false)) = (AV.lit (Value.bool @Bool.true))) (∃ (x_6 : @Cll), (True ∧
  (((((@Cll.kind x_6) = (@Cll.kind x_2)) ∧
  (((@Cll.key x_6) = (@Cll.key x_2)) ∧
  (((@Cll.value x_6) = (@Cll.value x_2)) ∧
  (((@Cll.to x_6) = (@Cll.to x_2)) ∧
  (((Value.slice (@Option.none @Addr) (0 : @Nat) (0 : @Nat)) = (Value.slice (@Option.none @Addr) (0 : @Nat) (0 : @Nat))) ∧
  (((0 : @Int) = (0 : @Int)) ∧
  (((0 : @Int) = (0 : @Int)) ∧
  ((@es = @es) ∧
  ((@Bool.false = @Bool.false) ∧
  (((0 : @Int) = (0 : @Int)) ∧
  ((@Bool.false = @Bool.false) ∧
  ((@es = @es) ∧
  (((0 : @Int) = (0 : @Int)) ∧
  (((0 : @Int) = (0 : @Int)) ∧
  (((0 : @Int) = (0 : @Int)) ∧
  (((0 : @Int) = (0 : @Int)) ∧
  (((-(1 : @Int)) = (-(1 : @Int))) ∧
  (((0 : @Int) = (0 : @Int)) ∧
  (((0 : @Int) = (0 : @Int)) ∧
  (((Value.slice (@Option.none @Addr) (0 : @Nat) (0 : @Nat)) = (Value.slice (@Option.none @Addr) (0 : @Nat) (0 : @Nat))) ∧
  (((0 : @Int) = (0 : @Int)) ∧
  (((Value.slice (@Option.none @Addr) (0 : @Nat) (0 : @Nat)) = (Value.slice (@Option.none @Addr) (0 : @Nat) (0 : @Nat))) ∧
  (((0 : @Int) = (0 : @Int)) ∧
  ((@Bool.false = @Bool.false) ∧
  ((@es = @es) ∧
  (((Value.slice (@Option.none @Addr) (0 : @Nat) (0 : @Nat)) = (Value.slice (@Option.none @Addr) (0 : @Nat) (0 : @Nat))) ∧
  (((Value.slice (@Option.none @Addr) (0 : @Nat) (0 : @Nat)) = (Value.slice (@Option.none @Addr) (0 : @Nat) (0 : @Nat))) ∧
  (((0 : @Int) = (0 : @Int)) ∧
  True)))))))))))))))))))))))))))) ∧
  ((((@Cll.kind x_6) = (@Cll.kind (@Prod.snd @Int @Cll x_4))) ∧
  (((@Cll.key x_6) = (@Cll.key (@Prod.snd @Int @Cll x_4))) ∧
  (((@Cll.value x_6) = (@Cll.value (@Prod.snd @Int @Cll x_4))) ∧
  (((@Cll.to x_6) = (@Cll.to (@Prod.snd @Int @Cll x_4))) ∧
  (((Value.slice (@Option.none @Addr) (0 : @Nat) (0 : @Nat)) = (Value.slice (@Option.none @Addr) (0 : @Nat) (0 : @Nat))) ∧
  (((0 : @Int) = (0 : @Int)) ∧
  (((0 : @Int) = (0 : @Int)) ∧
  ((@es = @es) ∧
  ((@Bool.false = @Bool.false) ∧
  (((0 : @Int) = (0 : @Int)) ∧
  ((@Bool.false = @Bool.false) ∧
  ((@es = @es) ∧
  (((0 : @Int) = (0 : @Int)) ∧
  (((0 : @Int) = (0 : @Int)) ∧
  (((0 : @Int) = (0 : @Int)) ∧
  (((0 : @Int) = (0 : @Int)) ∧
  (((-(1 : @Int)) = (-(1 : @Int))) ∧
  (((0 : @Int) = (0 : @Int)) ∧
  (((0 : @Int) = (0 : @Int)) ∧
  (((Value.slice (@Option.none @Addr) (0 : @Nat) (0 : @Nat)) = (Value.slice (@Option.none @Addr) (0 : @Nat) (0 : @Nat))) ∧
  (((0 : @Int) = (0 : @Int)) ∧
  (((Value.slice (@Option.none @Addr) (0 : @Nat) (0 : @Nat)) = (Value.slice (@Option.none @Addr) (0 : @Nat) (0 : @Nat))) ∧
  (((0 : @Int) = (0 : @Int)) ∧
  ((@Bool.false = @Bool.false) ∧
  ((@es = @es) ∧
  (((Value.slice (@Option.none @Addr) (0 : @Nat) (0 : @Nat)) = (Value.slice (@Option.none @Addr) (0 : @Nat) (0 : @Nat))) ∧
  (((Value.slice (@Option.none @Addr) (0 : @Nat) (0 : @Nat)) = (Value.slice (@Option.none @Addr) (0 : @Nat) (0 : @Nat))) ∧
  (((0 : @Int) = (0 : @Int)) ∧
  True)))))))))))))))))))))))))))) ∧
  True)) ∧
  (True ∧
  (∀ (y_6 : Unit), (True → (∃ (x_7 : (@Prod @Own @Cll)), ((@Hd (@isMem @sSAM @sSAO (@Prod.fst @Own @Cll x_7))) ∧
  ((((0 : @Nat) = (0 : @Nat)) ∧
  (((0 : @Int) = (0 : @Int)) ∧
  ((((@Cll.kind (@Prod.snd @Own @Cll x_7)) = (@Cll.kind x_2)) ∧
  (((@Cll.key (@Prod.snd @Own @Cll x_7)) = (@Cll.key x_2)) ∧
  (((@Cll.value (@Prod.snd @Own @Cll x_7)) = (@Cll.value x_2)) ∧
  (((@Cll.to (@Prod.snd @Own @Cll x_7)) = (@Cll.to x_2)) ∧
  (((Value.slice (@Option.none @Addr) (0 : @Nat) (0 : @Nat)) = (Value.slice (@Option.none @Addr) (0 : @Nat) (0 : @Nat))) ∧
  (((0 : @Int) = (0 : @Int)) ∧
  (((0 : @Int) = (0 : @Int)) ∧
  ((@es = @es) ∧
  ((@Bool.false = @Bool.false) ∧
  (((0 : @Int) = (0 : @Int)) ∧
  ((@Bool.false = @Bool.false) ∧
  ((@es = @es) ∧
  (((0 : @Int) = (0 : @Int)) ∧
  (((0 : @Int) = (0 : @Int)) ∧
  (((0 : @Int) = (0 : @Int)) ∧
  (((0 : @Int) = (0 : @Int)) ∧
  (((-(1 : @Int)) = (-(1 : @Int))) ∧
  (((0 : @Int) = (0 : @Int)) ∧
  (((0 : @Int) = (0 : @Int)) ∧
  (((Value.slice (@Option.none @Addr) (0 : @Nat) (0 : @Nat)) = (Value.slice (@Option.none @Addr) (0 : @Nat) (0 : @Nat))) ∧
  (((0 : @Int) = (0 : @Int)) ∧
  (((Value.slice (@Option.none @Addr) (0 : @Nat) (0 : @Nat)) = (Value.slice (@Option.none @Addr) (0 : @Nat) (0 : @Nat))) ∧
  (((0 : @Int) = (0 : @Int)) ∧
  ((@Bool.false = @Bool.false) ∧
  ((@es = @es) ∧
  (((Value.slice (@Option.none @Addr) (0 : @Nat) (0 : @Nat)) = (Value.slice (@Option.none @Addr) (0 : @Nat) (0 : @Nat))) ∧
  (((Value.slice (@Option.none @Addr) (0 : @Nat) (0 : @Nat)) = (Value.slice (@Option.none @Addr) (0 : @Nat) (0 : @Nat))) ∧
  (((0 : @Int) = (0 : @Int)) ∧
  True)))))))))))))))))))))))))))) ∧
  True))) ∧
  ((((@Prod.fst @Own @Cll x_7) = y_5) ∧
  True) ∧
  ((∀ (y_7 : Unit), ((@Hd (@Ne @Int (@Cll.kind (@Prod.snd @Own @Cll x_7)) (8 : @Int))) → (cP (@BEq.beq @Int (@instBEqOfDecidableEq @Int @Int.instDecidableEq) (@Cll.kind c) (8 : @Int)) (∃ (x_8 : Unit), (True ∧
  (True ∧
  (True ∧
  (∀ (y_8 : Unit), (True → ((AV.lit (Value.bool @Bool.true)) = (AV.lit (Value.bool @Bool.true))))))))) (∃ (x_8 : @Cll), (True ∧
  (((((@Cll.kind x_8) = (@Cll.kind (@Prod.snd @Own @Cll x_7))) ∧
  (((@Cll.key x_8) = (@Cll.key (@Prod.snd @Own @Cll x_7))) ∧
  (((@Cll.value x_8) = (@Cll.value (@Prod.snd @Own @Cll x_7))) ∧
  (((@Cll.to x_8) = (@Cll.to (@Prod.snd @Own @Cll x_7))) ∧
  (((Value.slice (@Option.none @Addr) (0 : @Nat) (0 : @Nat)) = (Value.slice (@Option.none @Addr) (0 : @Nat) (0 : @Nat))) ∧
  (((0 : @Int) = (0 : @Int)) ∧
  (((0 : @Int) = (0 : @Int)) ∧
  ((@es = @es) ∧
  ((@Bool.false = @Bool.false) ∧
  (((0 : @Int) = (0 : @Int)) ∧
  ((@Bool.false = @Bool.false) ∧
  ((@es = @es) ∧
  (((0 : @Int) = (0 : @Int)) ∧
  (((0 : @Int) = (0 : @Int)) ∧
  (((0 : @Int) = (0 : @Int)) ∧
  (((0 : @Int) = (0 : @Int)) ∧
  (((-(1 : @Int)) = (-(1 : @Int))) ∧
  (((0 : @Int) = (0 : @Int)) ∧
  (((0 : @Int) = (0 : @Int)) ∧
  (((Value.slice (@Option.none @Addr) (0 : @Nat) (0 : @Nat)) = (Value.slice (@Option.none @Addr) (0 : @Nat) (0 : @Nat))) ∧
  (((0 : @Int) = (0 : @Int)) ∧
  (((Value.slice (@Option.none @Addr) (0 : @Nat) (0 : @Nat)) = (Value.slice (@Option.none @Addr) (0 : @Nat) (0 : @Nat))) ∧
  (((0 : @Int) = (0 : @Int)) ∧
  ((@Bool.false = @Bool.false) ∧
  ((@es = @es) ∧
  (((Value.slice (@Option.none @Addr) (0 : @Nat) (0 : @Nat)) = (Value.slice (@Option.none @Addr) (0 : @Nat) (0 : @Nat))) ∧
  (((Value.slice (@Option.none @Addr) (0 : @Nat) (0 : @Nat)) = (Value.slice (@Option.none @Addr) (0 : @Nat) (0 : @Nat))) ∧
  (((0 : @Int) = (0 : @Int)) ∧
  True)))))))))))))))))))))))))))) ∧
  ((((@Cll.kind x_8) = (@Cll.kind x_2)) ∧
  (((@Cll.key x_8) = (@Cll.key x_2)) ∧
  (((@Cll.value x_8) = (@Cll.value x_2)) ∧
  (((@Cll.to x_8) = (@Cll.to x_2)) ∧
  (((Value.slice (@Option.none @Addr) (0 : @Nat) (0 : @Nat)) = (Value.slice (@Option.none @Addr) (0 : @Nat) (0 : @Nat))) ∧
  (((0 : @Int) = (0 : @Int)) ∧
  (((0 : @Int) = (0 : @Int)) ∧
  ((@es = @es) ∧
  ((@Bool.false = @Bool.false) ∧
  (((0 : @Int) = (0 : @Int)) ∧
  ((@Bool.false = @Bool.false) ∧
  ((@es = @es) ∧
  (((0 : @Int) = (0 : @Int)) ∧
  (((0 : @Int) = (0 : @Int)) ∧
  (((0 : @Int) = (0 : @Int)) ∧
  (((0 : @Int) = (0 : @Int)) ∧
  (((-(1 : @Int)) = (-(1 : @Int))) ∧
  (((0 : @Int) = (0 : @Int)) ∧
  (((0 : @Int) = (0 : @Int)) ∧
  (((Value.slice (@Option.none @Addr) (0 : @Nat) (0 : @Nat)) = (Value.slice (@Option.none @Addr) (0 : @Nat) (0 : @Nat))) ∧
  (((0 : @Int) = (0 : @Int)) ∧
  (((Value.slice (@Option.none @Addr) (0 : @Nat) (0 : @Nat)) = (Value.slice (@Option.none @Addr) (0 : @Nat) (0 : @Nat))) ∧
  (((0 : @Int) = (0 : @Int)) ∧
  ((@Bool.false = @Bool.false) ∧
  ((@es = @es) ∧
  (((Value.slice (@Option.none @Addr) (0 : @Nat) (0 : @Nat)) = (Value.slice (@Option.none @Addr) (0 : @Nat) (0 : @Nat))) ∧
  (((Value.slice (@Option.none @Addr) (0 : @Nat) (0 : @Nat)) = (Value.slice (@Option.none @Addr) (0 : @Nat) (0 : @Nat))) ∧
  (((0 : @Int) = (0 : @Int)) ∧
  True)))))))))))))))))))))))))))) ∧
  True)) ∧
  (True ∧
  (∀ (y_8 : Unit), (True → (∃ (x_9 : Unit), (True ∧
  (True ∧
  (True ∧
  (∀ (y_9 : Unit), (True → ((AV.lit (Value.bool @Bool.true)) = (AV.lit (Value.bool @Bool.true)))))))))))))))))) ∧
  (∀ (y_7 : Unit), ((@Hd ((@Cll.kind (@Prod.snd @Own @Cll x_7)) = (8 : @Int))) → (cP (@BEq.beq @Int (@instBEqOfDecidableEq @Int @Int.instDecidableEq) (@Cll.kind c) (8 : @Int)) (∃ (x_8 : Unit), (True ∧
  (True ∧
  (True ∧
  (∀ (y_8 : Unit), (True → ((AV.lit (Value.bool @Bool.true)) = (AV.lit (Value.bool @Bool.true))))))))) False))))))))))))))))))))))))))))))))))))))))) ∧
  (∀ (y_1 : Unit), ((@Hd ((1 : @Nat) ≤ (@Cll.gn x_1))) → (∃ (x_2 : @Cll), ((@Hd (@Cll.ok x_2)) ∧
  (((((@Cll.kind x_2) = (@Cll.kind x_1)) ∧
  (((@Cll.key x_2) = (@Cll.key x_1)) ∧
  (((@Cll.value x_2) = (@Cll.value x_1)) ∧
  (((@Cll.to x_2) = (@Cll.to x_1)) ∧
  ((((0 : @Nat) = (0 : @Nat)) ∧
  ((@Cll.gn x_2) = (@Cll.gn x_1))) ∧
  True))))) ∧
  True) ∧
  (((((@Cll.gn x_2) = (@Cll.gn x_1)) ∧
  (∀ (q : @Nat), ((q < (@Cll.gn x_2)) → ([(Value.int @IntKind.i64 (@Mem.kind (@Cll.g x_2 q))), (Value.string (@Mem.key (@Cll.g x_2 q))), (Value.string (@Mem.value (@Cll.g x_2 q))), (Value.string (@Mem.to (@Cll.g x_2 q))), (Value.slice (@Mem.gp (@Cll.g x_2 q)) (@Mem.gn (@Cll.g x_2 q)) (@Mem.gc (@Cll.g x_2 q)))] = [(Value.int @IntKind.i64 (@Mem.kind (@Cll.g x_1 q))), (Value.string (@Mem.key (@Cll.g x_1 q))), (Value.string (@Mem.value (@Cll.g x_1 q))), (Value.string (@Mem.to (@Cll.g x_1 q))), (Value.slice (@Mem.gp (@Cll.g x_1 q)) (@Mem.gn (@Cll.g x_1 q)) (@Mem.gc (@Cll.g x_1 q)))])))) ∧
  True) ∧
  (∀ (y_2 : (@Out.Y (@Ctr.X @beginWC) (@Out.mk @Cll @PS (fun (x_3 : @Cll) => (fun (x_4 : @PS) => True)) (fun (c_1 : @Cll) => (fun (x_3 : @PS) => (@Cll.frW c_1 (1 : @Nat)))) (2 : @Nat) (fun (c_1 : @Cll) => (fun (ps : @PS) => [(@roomC (@rowG c_1)), (@roomC (@rowP c_1 ps))]))))), (True → (∃ (x_3 : (@Prod @Int (@Prod @Int @Int))), (True ∧
  ((((Value.pointer (@Option.none @Addr)) = (Value.pointer (@Option.none @Addr))) ∧
  ((((@Prod.fst @Int (@Prod @Int @Int) x_3) = p) ∧
  (((@Prod.fst @Int @Int (@Prod.snd @Int (@Prod @Int @Int) x_3)) = l) ∧
  True)) ∧
  (((@Prod.snd @Int @Int (@Prod.snd @Int (@Prod @Int @Int) x_3)) = r) ∧
  True))) ∧
  (True ∧
  (∀ (y_3 : Unit), (True → (∃ (x_4 : (@Prod @Int @CP)), ((@Hd (@CP.ok (@Prod.snd @Int @CP x_4))) ∧
  ((((Value.pointer (@Option.none @Addr)) = (Value.pointer (@Option.none @Addr))) ∧
  (((@Prod.fst @Int @CP x_4) = (0 : @Int)) ∧
  ((((@Cll.kind (@CP.c (@Prod.snd @Int @CP x_4))) = (@Cll.kind x_2)) ∧
  (((@Cll.key (@CP.c (@Prod.snd @Int @CP x_4))) = (@Cll.key x_2)) ∧
  (((@Cll.value (@CP.c (@Prod.snd @Int @CP x_4))) = (@Cll.value x_2)) ∧
  (((@Cll.to (@CP.c (@Prod.snd @Int @CP x_4))) = (@Cll.to x_2)) ∧
  ((((0 : @Nat) = (0 : @Nat)) ∧
  ((@Cll.gn (@CP.c (@Prod.snd @Int @CP x_4))) = (@Cll.gn x_2))) ∧
  (((0 : @Int) = (0 : @Int)) ∧
  (((0 : @Int) = (0 : @Int)) ∧
  ((@es = @es) ∧
  ((@Bool.false = @Bool.false) ∧
  (((0 : @Int) = (0 : @Int)) ∧
  ((@Bool.false = @Bool.false) ∧
  ((@es = @es) ∧
  (((0 : @Int) = (0 : @Int)) ∧
  (((0 : @Int) = (0 : @Int)) ∧
  (((0 : @Int) = (0 : @Int)) ∧
  (((0 : @Int) = (0 : @Int)) ∧
  (((-(1 : @Int)) = (-(1 : @Int))) ∧
  (((0 : @Int) = (0 : @Int)) ∧
  (((0 : @Int) = (0 : @Int)) ∧
  (((Value.slice (@Option.none @Addr) (0 : @Nat) (0 : @Nat)) = (Value.slice (@Option.none @Addr) (0 : @Nat) (0 : @Nat))) ∧
  (((0 : @Int) = (0 : @Int)) ∧
  (((Value.slice (@Option.none @Addr) (0 : @Nat) (0 : @Nat)) = (Value.slice (@Option.none @Addr) (0 : @Nat) (0 : @Nat))) ∧
  (((0 : @Int) = (0 : @Int)) ∧
  ((@Bool.false = @Bool.false) ∧
  ((@es = @es) ∧
  (((Value.slice (@Option.none @Addr) (0 : @Nat) (0 : @Nat)) = (Value.slice (@Option.none @Addr) (0 : @Nat) (0 : @Nat))) ∧
  (((Value.slice (@Option.none @Addr) (0 : @Nat) (0 : @Nat)) = (Value.slice (@Option.none @Addr) (0 : @Nat) (0 : @Nat))) ∧
  (((0 : @Int) = (0 : @Int)) ∧
  True)))))))))))))))))))))))))))) ∧
  True))) ∧
  (((((@Cll.gn (@CP.c (@Prod.snd @Int @CP x_4))) = (@Cll.gn x_2)) ∧
  (∀ (q : @Nat), ((q < (@Cll.gn (@CP.c (@Prod.snd @Int @CP x_4)))) → ([(Value.int @IntKind.i64 (@Mem.kind (@Cll.g (@CP.c (@Prod.snd @Int @CP x_4)) q))), (Value.string (@Mem.key (@Cll.g (@CP.c (@Prod.snd @Int @CP x_4)) q))), (Value.string (@Mem.value (@Cll.g (@CP.c (@Prod.snd @Int @CP x_4)) q))), (Value.string (@Mem.to (@Cll.g (@CP.c (@Prod.snd @Int @CP x_4)) q))), (Value.slice (@CP.p (@Prod.snd @Int @CP x_4) q) (0 : @Nat) (0 : @Nat))] = [(Value.int @IntKind.i64 (@Mem.kind (@Cll.g x_2 q))), (Value.string (@Mem.key (@Cll.g x_2 q))), (Value.string (@Mem.value (@Cll.g x_2 q))), (Value.string (@Mem.to (@Cll.g x_2 q))), (Value.slice (y_2 q) (0 : @Nat) (0 : @Nat))])))) ∧
  True) ∧
  (∀ (y_4 : (@Out.Y (@Ctr.X @kSyW) (@Out.mk (@Prod @Int @CP) @PS (fun (x_5 : (@Prod @Int @CP)) => (fun (x_6 : @PS) => True)) (fun (x_5 : (@Prod @Int @CP)) => (fun (x_6 : @PS) => (AV.tup [(@Cll.frW (@CP.c (@Prod.snd @Int @CP x_5)) (1 : @Nat)), (@i64 (0 : @Int))]))) (2 : @Nat) (fun (x_5 : (@Prod @Int @CP)) => (fun (ps : @PS) => [(@roomC (@CP.cs (@Prod.snd @Int @CP x_5))), (@roomC (@rowP (@CP.c (@Prod.snd @Int @CP x_5)) ps))]))))), (True → (∃ (x_5 : Unit), (True ∧
  ((((10 : @Int) = (10 : @Int)) ∧
  (((1 : @Int) = (1 : @Int)) ∧
  True)) ∧
  (True ∧
  (∀ (y_5 : @Own), ((@Hd (@isMem @sSAM @sSAO y_5)) → (cP (@Bool.not (@Bool.and (@BEq.beq @Int (@instBEqOfDecidableEq @Int @Int.instDecidableEq) (@Prod.fst @Int (@Prod @Int @Int) x_3) p) (@Bool.and (@BEq.beq @Int (@instBEqOfDecidableEq @Int @Int.instDecidableEq) (@Prod.fst @Int @Int (@Prod.snd @Int (@Prod @Int @Int) x_3)) l) @Bool.true))) ((AV.lit (Value.bool @Bool.false)) = (AV.lit (Value.bool @Bool.true))) (∃ (x_6 : @CQ), ((@Hd (@CQ.ok x_6)) ∧
  (((((@Cll.kind (@CQ.c x_6)) = (@Cll.kind x_2)) ∧
  (((@Cll.key (@CQ.c x_6)) = (@Cll.key x_2)) ∧
  (((@Cll.value (@CQ.c x_6)) = (@Cll.value x_2)) ∧
  (((@Cll.to (@CQ.c x_6)) = (@Cll.to x_2)) ∧
  ((((0 : @Nat) = (0 : @Nat)) ∧
  ((@Cll.gn (@CQ.c x_6)) = (@Cll.gn x_2))) ∧
  (((0 : @Int) = (0 : @Int)) ∧
  (((0 : @Int) = (0 : @Int)) ∧
  ((@es = @es) ∧
  ((@Bool.false = @Bool.false) ∧
  (((0 : @Int) = (0 : @Int)) ∧
  ((@Bool.false = @Bool.false) ∧
  ((@es = @es) ∧
  (((0 : @Int) = (0 : @Int)) ∧
  (((0 : @Int) = (0 : @Int)) ∧
  (((0 : @Int) = (0 : @Int)) ∧
  (((0 : @Int) = (0 : @Int)) ∧
  (((-(1 : @Int)) = (-(1 : @Int))) ∧
  (((0 : @Int) = (0 : @Int)) ∧
  (((0 : @Int) = (0 : @Int)) ∧
  (((Value.slice (@Option.none @Addr) (0 : @Nat) (0 : @Nat)) = (Value.slice (@Option.none @Addr) (0 : @Nat) (0 : @Nat))) ∧
  (((0 : @Int) = (0 : @Int)) ∧
  (((Value.slice (@Option.none @Addr) (0 : @Nat) (0 : @Nat)) = (Value.slice (@Option.none @Addr) (0 : @Nat) (0 : @Nat))) ∧
  (((0 : @Int) = (0 : @Int)) ∧
  ((@Bool.false = @Bool.false) ∧
  ((@es = @es) ∧
  (((Value.slice (@Option.none @Addr) (0 : @Nat) (0 : @Nat)) = (Value.slice (@Option.none @Addr) (0 : @Nat) (0 : @Nat))) ∧
  (((Value.slice (@Option.none @Addr) (0 : @Nat) (0 : @Nat)) = (Value.slice (@Option.none @Addr) (0 : @Nat) (0 : @Nat))) ∧
  (((0 : @Int) = (0 : @Int)) ∧
  True)))))))))))))))))))))))))))) ∧
  ((((@Cll.kind (@CQ.c x_6)) = (@Cll.kind (@CP.c (@Prod.snd @Int @CP x_4)))) ∧
  (((@Cll.key (@CQ.c x_6)) = (@Cll.key (@CP.c (@Prod.snd @Int @CP x_4)))) ∧
  (((@Cll.value (@CQ.c x_6)) = (@Cll.value (@CP.c (@Prod.snd @Int @CP x_4)))) ∧
  (((@Cll.to (@CQ.c x_6)) = (@Cll.to (@CP.c (@Prod.snd @Int @CP x_4)))) ∧
  ((((0 : @Nat) = (0 : @Nat)) ∧
  ((@Cll.gn (@CQ.c x_6)) = (@Cll.gn (@CP.c (@Prod.snd @Int @CP x_4))))) ∧
  (((0 : @Int) = (0 : @Int)) ∧
  (((0 : @Int) = (0 : @Int)) ∧
  ((@es = @es) ∧
  ((@Bool.false = @Bool.false) ∧
  (((0 : @Int) = (0 : @Int)) ∧
  ((@Bool.false = @Bool.false) ∧
  ((@es = @es) ∧
  (((0 : @Int) = (0 : @Int)) ∧
  (((0 : @Int) = (0 : @Int)) ∧
  (((0 : @Int) = (0 : @Int)) ∧
  (((0 : @Int) = (0 : @Int)) ∧
  (((-(1 : @Int)) = (-(1 : @Int))) ∧
  (((0 : @Int) = (0 : @Int)) ∧
  (((0 : @Int) = (0 : @Int)) ∧
  (((Value.slice (@Option.none @Addr) (0 : @Nat) (0 : @Nat)) = (Value.slice (@Option.none @Addr) (0 : @Nat) (0 : @Nat))) ∧
  (((0 : @Int) = (0 : @Int)) ∧
  (((Value.slice (@Option.none @Addr) (0 : @Nat) (0 : @Nat)) = (Value.slice (@Option.none @Addr) (0 : @Nat) (0 : @Nat))) ∧
  (((0 : @Int) = (0 : @Int)) ∧
  ((@Bool.false = @Bool.false) ∧
  ((@es = @es) ∧
  (((Value.slice (@Option.none @Addr) (0 : @Nat) (0 : @Nat)) = (Value.slice (@Option.none @Addr) (0 : @Nat) (0 : @Nat))) ∧
  (((Value.slice (@Option.none @Addr) (0 : @Nat) (0 : @Nat)) = (Value.slice (@Option.none @Addr) (0 : @Nat) (0 : @Nat))) ∧
  (((0 : @Int) = (0 : @Int)) ∧
  True)))))))))))))))))))))))))))) ∧
  True)) ∧
  (((((@Cll.gn (@CQ.c x_6)) = (@Cll.gn (@CP.c (@Prod.snd @Int @CP x_4)))) ∧
  (∀ (q : @Nat), ((q < (@Cll.gn (@CQ.c x_6))) → ([(Value.int @IntKind.i64 (@Mem.kind (@Cll.g (@CQ.c x_6) q))), (Value.string (@Mem.key (@Cll.g (@CQ.c x_6) q))), (Value.string (@Mem.value (@Cll.g (@CQ.c x_6) q))), (Value.string (@Mem.to (@Cll.g (@CQ.c x_6) q))), (Value.slice (@CQ.p x_6 q) (0 : @Nat) (0 : @Nat))] = [(Value.int @IntKind.i64 (@Mem.kind (@Cll.g (@CP.c (@Prod.snd @Int @CP x_4)) q))), (Value.string (@Mem.key (@Cll.g (@CP.c (@Prod.snd @Int @CP x_4)) q))), (Value.string (@Mem.value (@Cll.g (@CP.c (@Prod.snd @Int @CP x_4)) q))), (Value.string (@Mem.to (@Cll.g (@CP.c (@Prod.snd @Int @CP x_4)) q))), (Value.slice (@CP.p (@Prod.snd @Int @CP x_4) q) (0 : @Nat) (0 : @Nat))])))) ∧
  ((((@Cll.gn (@CQ.c x_6)) = (@Cll.gn (@CP.c (@Prod.snd @Int @CP x_4)))) ∧
  (∀ (q : @Nat), ((q < (@Cll.gn (@CQ.c x_6))) → ([(Value.int @IntKind.i64 (@Mem.kind (@Cll.g (@CQ.c x_6) q))), (Value.string (@Mem.key (@Cll.g (@CQ.c x_6) q))), (Value.string (@Mem.value (@Cll.g (@CQ.c x_6) q))), (Value.string (@Mem.to (@Cll.g (@CQ.c x_6) q))), (Value.slice (@CQ.q x_6 q) (0 : @Nat) (0 : @Nat))] = [(Value.int @IntKind.i64 (@Mem.kind (@Cll.g (@CP.c (@Prod.snd @Int @CP x_4)) q))), (Value.string (@Mem.key (@Cll.g (@CP.c (@Prod.snd @Int @CP x_4)) q))), (Value.string (@Mem.value (@Cll.g (@CP.c (@Prod.snd @Int @CP x_4)) q))), (Value.string (@Mem.to (@Cll.g (@CP.c (@Prod.snd @Int @CP x_4)) q))), (Value.slice (y_4 q) (0 : @Nat) (0 : @Nat))])))) ∧
  True)) ∧
  (∀ (y_6 : Unit), (True → (∃ (x_7 : (@Prod @Own @CP)), ((@Hd ((@isMem @sSAM @sSAO (@Prod.fst @Own @CP x_7)) ∧
  (@CP.ok (@Prod.snd @Own @CP x_7)))) ∧
  ((((0 : @Nat) = (0 : @Nat)) ∧
  (((0 : @Int) = (0 : @Int)) ∧
  ((((@Cll.kind (@CP.c (@Prod.snd @Own @CP x_7))) = (@Cll.kind x_2)) ∧
  (((@Cll.key (@CP.c (@Prod.snd @Own @CP x_7))) = (@Cll.key x_2)) ∧
  (((@Cll.value (@CP.c (@Prod.snd @Own @CP x_7))) = (@Cll.value x_2)) ∧
  (((@Cll.to (@CP.c (@Prod.snd @Own @CP x_7))) = (@Cll.to x_2)) ∧
  ((((0 : @Nat) = (0 : @Nat)) ∧
  ((@Cll.gn (@CP.c (@Prod.snd @Own @CP x_7))) = (@Cll.gn x_2))) ∧
  (((0 : @Int) = (0 : @Int)) ∧
  (((0 : @Int) = (0 : @Int)) ∧
  ((@es = @es) ∧
  ((@Bool.false = @Bool.false) ∧
  (((0 : @Int) = (0 : @Int)) ∧
  ((@Bool.false = @Bool.false) ∧
  ((@es = @es) ∧
  (((0 : @Int) = (0 : @Int)) ∧
  (((0 : @Int) = (0 : @Int)) ∧
  (((0 : @Int) = (0 : @Int)) ∧
  (((0 : @Int) = (0 : @Int)) ∧
  (((-(1 : @Int)) = (-(1 : @Int))) ∧
  (((0 : @Int) = (0 : @Int)) ∧
  (((0 : @Int) = (0 : @Int)) ∧
  (((Value.slice (@Option.none @Addr) (0 : @Nat) (0 : @Nat)) = (Value.slice (@Option.none @Addr) (0 : @Nat) (0 : @Nat))) ∧
  (((0 : @Int) = (0 : @Int)) ∧
  (((Value.slice (@Option.none @Addr) (0 : @Nat) (0 : @Nat)) = (Value.slice (@Option.none @Addr) (0 : @Nat) (0 : @Nat))) ∧
  (((0 : @Int) = (0 : @Int)) ∧
  ((@Bool.false = @Bool.false) ∧
  ((@es = @es) ∧
  (((Value.slice (@Option.none @Addr) (0 : @Nat) (0 : @Nat)) = (Value.slice (@Option.none @Addr) (0 : @Nat) (0 : @Nat))) ∧
  (((Value.slice (@Option.none @Addr) (0 : @Nat) (0 : @Nat)) = (Value.slice (@Option.none @Addr) (0 : @Nat) (0 : @Nat))) ∧
  (((0 : @Int) = (0 : @Int)) ∧
  True)))))))))))))))))))))))))))) ∧
  True))) ∧
  ((((@Prod.fst @Own @CP x_7) = y_5) ∧
  ((((@Cll.gn (@CP.c (@Prod.snd @Own @CP x_7))) = (@Cll.gn (@CQ.c x_6))) ∧
  (∀ (q : @Nat), ((q < (@Cll.gn (@CP.c (@Prod.snd @Own @CP x_7)))) → ([(Value.int @IntKind.i64 (@Mem.kind (@Cll.g (@CP.c (@Prod.snd @Own @CP x_7)) q))), (Value.string (@Mem.key (@Cll.g (@CP.c (@Prod.snd @Own @CP x_7)) q))), (Value.string (@Mem.value (@Cll.g (@CP.c (@Prod.snd @Own @CP x_7)) q))), (Value.string (@Mem.to (@Cll.g (@CP.c (@Prod.snd @Own @CP x_7)) q))), (Value.slice (@CP.p (@Prod.snd @Own @CP x_7) q) (0 : @Nat) (0 : @Nat))] = [(Value.int @IntKind.i64 (@Mem.kind (@Cll.g (@CQ.c x_6) q))), (Value.string (@Mem.key (@Cll.g (@CQ.c x_6) q))), (Value.string (@Mem.value (@Cll.g (@CQ.c x_6) q))), (Value.string (@Mem.to (@Cll.g (@CQ.c x_6) q))), (Value.slice (@CQ.p x_6 q) (0 : @Nat) (0 : @Nat))])))) ∧
  True)) ∧
  ((∀ (y_7 : (@Out.Y (@Ctr.X @kSxW) (@Out.mk (@Prod @Own @CP) @PS (fun (x_8 : (@Prod @Own @CP)) => (fun (x_9 : @PS) => (@Hd (@Ne @Int (@Cll.kind (@CP.c (@Prod.snd @Own @CP x_8))) (8 : @Int))))) (fun (x_8 : (@Prod @Own @CP)) => (fun (x_9 : @PS) => (AV.tup [(@Cll.frW (@CP.c (@Prod.snd @Own @CP x_8)) (2 : @Nat)), (@i64 (0 : @Int))]))) (3 : @Nat) (fun (x_8 : (@Prod @Own @CP)) => (fun (ps : @PS) => [(@AObj.abs (@Prod.fst @Own @CP x_8)), (@roomC (@CP.cs (@Prod.snd @Own @CP x_8))), (@roomC (@rowP (@CP.c (@Prod.snd @Own @CP x_8)) ps))]))))), ((@Hd (@Ne @Int (@Cll.kind (@CP.c (@Prod.snd @Own @CP x_7))) (8 : @Int))) → (cP (@BEq.beq @Int (@instBEqOfDecidableEq @Int @Int.instDecidableEq) (@Cll.kind c) (8 : @Int)) (∃ (x_8 : Unit), (True ∧
  (True ∧
  (True ∧
  (∀ (y_8 : Unit), (True → ((AV.lit (Value.bool @Bool.true)) = (AV.lit (Value.bool @Bool.true))))))))) (∃ (x_8 : @CQ), ((@Hd (@CQ.ok x_8)) ∧
  (((((@Cll.kind (@CQ.c x_8)) = (@Cll.kind (@CP.c (@Prod.snd @Own @CP x_7)))) ∧
  (((@Cll.key (@CQ.c x_8)) = (@Cll.key (@CP.c (@Prod.snd @Own @CP x_7)))) ∧
  (((@Cll.value (@CQ.c x_8)) = (@Cll.value (@CP.c (@Prod.snd @Own @CP x_7)))) ∧
  (((@Cll.to (@CQ.c x_8)) = (@Cll.to (@CP.c (@Prod.snd @Own @CP x_7)))) ∧
  ((((0 : @Nat) = (0 : @Nat)) ∧
  ((@Cll.gn (@CQ.c x_8)) = (@Cll.gn (@CP.c (@Prod.snd @Own @CP x_7))))) ∧
  (((0 : @Int) = (0 : @Int)) ∧
  (((0 : @Int) = (0 : @Int)) ∧
  ((@es = @es) ∧
  ((@Bool.false = @Bool.false) ∧
  (((0 : @Int) = (0 : @Int)) ∧
  ((@Bool.false = @Bool.false) ∧
  ((@es = @es) ∧
  (((0 : @Int) = (0 : @Int)) ∧
  (((0 : @Int) = (0 : @Int)) ∧
  (((0 : @Int) = (0 : @Int)) ∧
  (((0 : @Int) = (0 : @Int)) ∧
  (((-(1 : @Int)) = (-(1 : @Int))) ∧
  (((0 : @Int) = (0 : @Int)) ∧
  (((0 : @Int) = (0 : @Int)) ∧
  (((Value.slice (@Option.none @Addr) (0 : @Nat) (0 : @Nat)) = (Value.slice (@Option.none @Addr) (0 : @Nat) (0 : @Nat))) ∧
  (((0 : @Int) = (0 : @Int)) ∧
  (((Value.slice (@Option.none @Addr) (0 : @Nat) (0 : @Nat)) = (Value.slice (@Option.none @Addr) (0 : @Nat) (0 : @Nat))) ∧
  (((0 : @Int) = (0 : @Int)) ∧
  ((@Bool.false = @Bool.false) ∧
  ((@es = @es) ∧
  (((Value.slice (@Option.none @Addr) (0 : @Nat) (0 : @Nat)) = (Value.slice (@Option.none @Addr) (0 : @Nat) (0 : @Nat))) ∧
  (((Value.slice (@Option.none @Addr) (0 : @Nat) (0 : @Nat)) = (Value.slice (@Option.none @Addr) (0 : @Nat) (0 : @Nat))) ∧
  (((0 : @Int) = (0 : @Int)) ∧
  True)))))))))))))))))))))))))))) ∧
  ((((@Cll.kind (@CQ.c x_8)) = (@Cll.kind x_2)) ∧
  (((@Cll.key (@CQ.c x_8)) = (@Cll.key x_2)) ∧
  (((@Cll.value (@CQ.c x_8)) = (@Cll.value x_2)) ∧
  (((@Cll.to (@CQ.c x_8)) = (@Cll.to x_2)) ∧
  ((((0 : @Nat) = (0 : @Nat)) ∧
  ((@Cll.gn (@CQ.c x_8)) = (@Cll.gn x_2))) ∧
  (((0 : @Int) = (0 : @Int)) ∧
  (((0 : @Int) = (0 : @Int)) ∧
  ((@es = @es) ∧
  ((@Bool.false = @Bool.false) ∧
  (((0 : @Int) = (0 : @Int)) ∧
  ((@Bool.false = @Bool.false) ∧
  ((@es = @es) ∧
  (((0 : @Int) = (0 : @Int)) ∧
  (((0 : @Int) = (0 : @Int)) ∧
  (((0 : @Int) = (0 : @Int)) ∧
  (((0 : @Int) = (0 : @Int)) ∧
  (((-(1 : @Int)) = (-(1 : @Int))) ∧
  (((0 : @Int) = (0 : @Int)) ∧
  (((0 : @Int) = (0 : @Int)) ∧
  (((Value.slice (@Option.none @Addr) (0 : @Nat) (0 : @Nat)) = (Value.slice (@Option.none @Addr) (0 : @Nat) (0 : @Nat))) ∧
  (((0 : @Int) = (0 : @Int)) ∧
  (((Value.slice (@Option.none @Addr) (0 : @Nat) (0 : @Nat)) = (Value.slice (@Option.none @Addr) (0 : @Nat) (0 : @Nat))) ∧
  (((0 : @Int) = (0 : @Int)) ∧
  ((@Bool.false = @Bool.false) ∧
  ((@es = @es) ∧
  (((Value.slice (@Option.none @Addr) (0 : @Nat) (0 : @Nat)) = (Value.slice (@Option.none @Addr) (0 : @Nat) (0 : @Nat))) ∧
  (((Value.slice (@Option.none @Addr) (0 : @Nat) (0 : @Nat)) = (Value.slice (@Option.none @Addr) (0 : @Nat) (0 : @Nat))) ∧
  (((0 : @Int) = (0 : @Int)) ∧
  True)))))))))))))))))))))))))))) ∧
  True)) ∧
  (((((@Cll.gn (@CQ.c x_8)) = (@Cll.gn (@CP.c (@Prod.snd @Own @CP x_7)))) ∧
  (∀ (q : @Nat), ((q < (@Cll.gn (@CQ.c x_8))) → ([(Value.int @IntKind.i64 (@Mem.kind (@Cll.g (@CQ.c x_8) q))), (Value.string (@Mem.key (@Cll.g (@CQ.c x_8) q))), (Value.string (@Mem.value (@Cll.g (@CQ.c x_8) q))), (Value.string (@Mem.to (@Cll.g (@CQ.c x_8) q))), (Value.slice (@CQ.p x_8 q) (0 : @Nat) (0 : @Nat))] = [(Value.int @IntKind.i64 (@Mem.kind (@Cll.g (@CP.c (@Prod.snd @Own @CP x_7)) q))), (Value.string (@Mem.key (@Cll.g (@CP.c (@Prod.snd @Own @CP x_7)) q))), (Value.string (@Mem.value (@Cll.g (@CP.c (@Prod.snd @Own @CP x_7)) q))), (Value.string (@Mem.to (@Cll.g (@CP.c (@Prod.snd @Own @CP x_7)) q))), (Value.slice (y_7 q) (0 : @Nat) (0 : @Nat))])))) ∧
  ((((@Cll.gn (@CQ.c x_8)) = (@Cll.gn (@CP.c (@Prod.snd @Own @CP x_7)))) ∧
  (∀ (q : @Nat), ((q < (@Cll.gn (@CQ.c x_8))) → ([(Value.int @IntKind.i64 (@Mem.kind (@Cll.g (@CQ.c x_8) q))), (Value.string (@Mem.key (@Cll.g (@CQ.c x_8) q))), (Value.string (@Mem.value (@Cll.g (@CQ.c x_8) q))), (Value.string (@Mem.to (@Cll.g (@CQ.c x_8) q))), (Value.slice (@CQ.q x_8 q) (0 : @Nat) (0 : @Nat))] = [(Value.int @IntKind.i64 (@Mem.kind (@Cll.g (@CP.c (@Prod.snd @Own @CP x_7)) q))), (Value.string (@Mem.key (@Cll.g (@CP.c (@Prod.snd @Own @CP x_7)) q))), (Value.string (@Mem.value (@Cll.g (@CP.c (@Prod.snd @Own @CP x_7)) q))), (Value.string (@Mem.to (@Cll.g (@CP.c (@Prod.snd @Own @CP x_7)) q))), (Value.slice (@CP.p (@Prod.snd @Own @CP x_7) q) (0 : @Nat) (0 : @Nat))])))) ∧
  True)) ∧
  (∀ (y_8 : Unit), (True → (∃ (x_9 : Unit), (True ∧
  (True ∧
  (True ∧
  (∀ (y_9 : Unit), (True → ((AV.lit (Value.bool @Bool.true)) = (AV.lit (Value.bool @Bool.true)))))))))))))))))) ∧
  (∀ (y_7 : Unit), ((@Hd ((@Cll.kind (@CP.c (@Prod.snd @Own @CP x_7))) = (8 : @Int))) → (cP (@BEq.beq @Int (@instBEqOfDecidableEq @Int @Int.instDecidableEq) (@Cll.kind c) (8 : @Int)) (∃ (x_8 : Unit), (True ∧
  (True ∧
  (True ∧
  (∀ (y_8 : Unit), (True → ((AV.lit (Value.bool @Bool.true)) = (AV.lit (Value.bool @Bool.true))))))))) False)))))))))))))))))))))))))))))))))))))))))))))))))))))
theorem kNoneVC_ok (c : Cll) (p l r : Int) : kNoneVC c p l r = kNoneVC_wp c p l r := by kernel_rfl
end Go.Proofs.YtnlpcbdmllpddaaGreat
end
section
/- What a closed run says: true. -/
namespace Go.Proofs.YtnlpcbdmllpddaaGreat
open Go SE
def sayT : AV → Heap → Rs Unit := fun v _ => match v with
  | .lit (.bool true) => .ok ()
  | _ => .no []
theorem sayT_spec {v : AV} {h : Heap} (hh : sayT v h = .ok ()) : v = .lit (.bool true) := by
  unfold sayT at hh
  split at hh
  · rfl
  · cases hh
end Go.Proofs.YtnlpcbdmllpddaaGreat
end
