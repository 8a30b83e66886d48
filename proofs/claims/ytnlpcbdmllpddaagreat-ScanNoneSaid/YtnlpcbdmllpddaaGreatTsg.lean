import Derived.Test.YtnlpcbdmllpddaaGreatTsa
import Derived.Test.YtnlpcbdmllpddaaGreatTsb
import Derived.Test.YtnlpcbdmllpddaaGreatTsc
import Derived.Test.YtnlpcbdmllpddaaGreatTsd
import Derived.Test.YtnlpcbdmllpddaaGreatTse
import Derived.Test.YtnlpcbdmllpddaaGreatTsf
import Derived.KernelRfl
section
/- Calls of groups that came in: what is asked is so; contracts. -/
namespace Go.Proofs.YtnlpcbdmllpddaaGreat
open Go SE
theorem eff1 (g : Nat → List Value) (i : Nat) (v : List Value) (q : Nat) : Cs.eff g [(i, v)] q = if q = i then v else g q := by
  simp only [Cs.eff]
  by_cases h : q = i
  · subst h; simp
  · rw [if_neg h]; cases e : Nat.beq q i with
    | true => exact (h (Nat.eq_of_beq_eq_true e)).elim
    | false => rfl
theorem blt_lt {a b : Nat} (h : a < b) : Nat.blt a b = true := nblt_iff.2 h
theorem blt_ge {a b : Nat} (h : b ≤ a) : Nat.blt a b = false := by
  cases e : Nat.blt a b with
  | false => rfl
  | true => have := nblt_iff.1 e; omega
def up (p : PS) (i : Nat) (q : Option Addr) : PS := fun k => if k = i then q else p k
theorem beginWVC_true (x : Cll) (hx : x.ok) : beginWVC x := by
  unfold beginWVC
  simp only [hd_iff, and_true, true_and, Nat.zero_add, Nat.add_zero, unit_ex, unit_all, true_implies, implies_true, Int.toNat_natCast, eq_self, and_self, es_eq]
  obtain ⟨⟨_, _, _, hgn, hm⟩, h1⟩ := hx
  refine ⟨⟨x.gn, fun k => (x.g k).cells⟩, ⟨h1, hgn⟩, rfl, ⟨rfl, fun q hq => rfl⟩, ⟨(0, fun _ => none), Nat.zero_le _, rfl, rfl, fun q hq => rfl⟩, fun s hs => cP_intro (fun hb => ?_) (fun hb => ?_)⟩
  · have hb := of_decide_eq_true hb
    have hl : s.1 < x.gn := by dsimp only at hb; omega
    refine ⟨⟨by omega, hb⟩, hl, x.g s.1, ⟨rfl, rfl, rfl, rfl, ?_⟩, fun y => ⟨⟨by omega, hb⟩, hl, by unfold I64; omega, (s.1 + 1, up s.2 s.1 y), by dsimp only; omega, by dsimp only; omega, by dsimp only; omega, fun q hq => ?_⟩⟩
    · rw [blt_ge (Nat.le_refl _)]
      simp only [cond_false]
      rw [(hm _ hl).2.2.2]
    · rw [eff1]
      dsimp only
      rcases Nat.lt_trichotomy q s.1 with h | h | h
      · rw [if_neg (by omega), blt_lt (by omega : q < s.1 + 1), blt_lt h]; simp only [cond_true, up]; rw [if_neg (by omega)]
      · subst h; rw [if_pos rfl, blt_lt (by omega)]; simp [up]
      · rw [if_neg (by omega), blt_ge (by omega : s.1 + 1 ≤ q), blt_ge (by omega : s.1 ≤ q)]; rfl
  · have hb := of_decide_eq_false hb
    refine ⟨s.2, rfl, ⟨rfl, fun q hq => rfl⟩, fun q hq => ?_⟩
    rw [blt_lt (by dsimp only at hb; omega)]
    rfl
theorem beginW_ok : CtrOk Tryz.prog 11 beginWC := ctr_endL tt_ok mixed (.cons (ctrT_ok cloneW_ok) (.cons (ctrT_ok beginM_ok) .nil)) (C := beginWC) anBegin 200 6 (fun _ => rfl) (fun _ => ⟨fun _ => rfl, trivial⟩) fun x hx => Eq.mp (beginWVC_ok x) (beginWVC_true x (hd_iff.1 hx))
theorem callWVC_true (x : CP) (hx : x.ok) : callWVC x := by
  unfold callWVC
  simp only [hd_iff, and_true, true_and, Nat.zero_add, Nat.add_zero, unit_ex, unit_all, true_implies, implies_true, Int.toNat_natCast, eq_self, and_self, es_eq]
  obtain ⟨⟨_, _, _, hgn, hm⟩, h1⟩ := hx
  refine ⟨⟨x.c.gn, fun k => (x.c.g k).cellsP (x.p k)⟩, ⟨h1, hgn⟩, rfl, ⟨rfl, fun q hq => rfl⟩, ⟨(0, fun _ => none), Nat.zero_le _, rfl, rfl, fun q hq => rfl⟩, fun s hs => cP_intro (fun hb => ?_) (fun hb => ?_)⟩
  · have hb := of_decide_eq_true hb
    have hl : s.1 < x.c.gn := by dsimp only at hb; omega
    refine ⟨⟨by omega, hb⟩, hl, (x.c.g s.1, x.p s.1), ⟨rfl, rfl, rfl, rfl, ?_⟩, fun y => ⟨⟨by omega, hb⟩, hl, by unfold I64; omega, (s.1 + 1, up s.2 s.1 y), by dsimp only; omega, by dsimp only; omega, by dsimp only; omega, fun q hq => ?_⟩⟩
    · rw [blt_ge (Nat.le_refl _)]; rfl
    · rw [eff1]
      dsimp only
      rcases Nat.lt_trichotomy q s.1 with h | h | h
      · rw [if_neg (by omega), blt_lt (by omega : q < s.1 + 1), blt_lt h]; simp only [cond_true, up]; rw [if_neg (by omega)]
      · subst h; rw [if_pos rfl, blt_lt (by omega)]; simp [up]
      · rw [if_neg (by omega), blt_ge (by omega : s.1 + 1 ≤ q), blt_ge (by omega : s.1 ≤ q)]; rfl
  · have hb := of_decide_eq_false hb
    refine ⟨s.2, rfl, ⟨rfl, fun q hq => rfl⟩, fun q hq => ?_⟩
    rw [blt_lt (by dsimp only at hb; omega)]
    rfl
theorem callW_ok : CtrOk Tryz.prog 102 callWC := ctr_endL tt_ok mixed (.cons (ctrT_ok cloneW_ok) (.cons (ctrT_ok callM_ok) .nil)) (C := callWC) anCallF 200 6 (fun _ => rfl) (fun _ => ⟨fun _ => rfl, trivial⟩) fun x hx => Eq.mp (callWVC_ok x) (callWVC_true x (hd_iff.1 hx))
theorem cloneFWVC_true (x : CP) (hx : x.ok) : cloneFWVC x := by
  unfold cloneFWVC
  simp only [hd_iff, and_true, true_and, Nat.zero_add, Nat.add_zero, unit_ex, unit_all, true_implies, implies_true, Int.toNat_natCast, eq_self, and_self, es_eq]
  exact ⟨x, hx, ⟨rfl, rfl, rfl, rfl, rfl⟩, ⟨rfl, fun _ _ => rfl⟩, fun y => ⟨y, ⟨rfl, rfl, rfl, rfl, rfl⟩, ⟨rfl, fun _ _ => rfl⟩, rfl, fun _ _ => rfl⟩⟩
theorem cloneFW_ok : CtrOk Tryz.prog 45 cloneFW := ctr_endL tt_ok mixed (.cons (ctrT_ok callW_ok) .nil) (C := cloneFW) (fun _ => noAn) 200 6 (fun _ => rfl) (fun _ => ⟨fun _ => rfl, trivial⟩) fun x hx => Eq.mp (cloneFWVC_ok x) (cloneFWVC_true x (hd_iff.1 hx))
theorem sameCWVC_true (x : CQ) (hx : x.ok) : sameCWVC x := by
  unfold sameCWVC
  simp only [hd_iff, and_true, true_and, Nat.zero_add, Nat.add_zero, unit_ex, unit_all, true_implies, implies_true, Int.toNat_natCast, eq_self, and_self, es_eq, bne_self_eq_false, beq_self_eq_true, Bool.not_true, cP]
  obtain ⟨⟨_, _, _, hgn, hm⟩, h1⟩ := hx
  refine ⟨⟨0, Nat.zero_le _, rfl⟩, fun s hs => ?_⟩
  cases hb : decide ((s : Int) < (x.c.gn : Int)) with
  | true =>
    have hb := of_decide_eq_true hb
    exact ⟨⟨by omega, hb⟩, by omega, ⟨by omega, hb⟩, by omega, by omega, by omega, by omega, by unfold I64; omega, s + 1, by omega, by omega, by omega⟩
  | false => trivial
theorem sameCW_ok : CtrOk Tryz.prog 56 sameCW := ctr_endL tt_ok mixed TblOk.nil (C := sameCW) anSame 200 6 (fun _ => rfl) (fun _ => ⟨fun _ => rfl, trivial⟩) fun x hx => Eq.mp (sameCWVC_ok x) (sameCWVC_true x (hd_iff.1 hx))
theorem sameFWVC_true (x : CQ) (hx : x.ok) : sameFWVC x := by
  unfold sameFWVC
  simp only [hd_iff, and_true, true_and, Nat.zero_add, Nat.add_zero, unit_ex, unit_all, true_implies, implies_true, Int.toNat_natCast, eq_self, and_self, es_eq]
  exact ⟨x, hx, by simp⟩
theorem sameFN_ok : CtrOk Tryz.prog 16 sameFN := ctr_endL tt_ok mixed (.cons (ctrT_ok sameB_ok) (.cons (ctrT_ok sameCN_ok) .nil)) (C := sameFN) (fun _ => noAn) 200 6 (fun _ => rfl) (fun _ => ⟨fun _ => rfl, trivial⟩) fun x _ => Eq.mp (sameFNVC_ok x) (by unfold sameFNVC; simp only [hd_iff, and_true, true_and, Nat.zero_add, Nat.add_zero, unit_ex, unit_all, true_implies, implies_true, Int.toNat_natCast, eq_self, and_self]; exact ⟨x, by simp⟩)
theorem sameFW_ok : CtrOk Tryz.prog 16 sameFW := ctr_endL tt_ok mixed (.cons (ctrT_ok sameB_ok) (.cons (ctrT_ok sameCW_ok) .nil)) (C := sameFW) (fun _ => noAn) 200 6 (fun _ => rfl) (fun _ => ⟨fun _ => rfl, trivial⟩) fun x hx => Eq.mp (sameFWVC_ok x) (sameFWVC_true x (hd_iff.1 hx))
end Go.Proofs.YtnlpcbdmllpddaaGreat
end
section
/- Steps of frames that stay as they are: contracts. -/
namespace Go.Proofs.YtnlpcbdmllpddaaGreat
open Go SE
noncomputable section
def nilP : AV := .lit (.pointer none)
def stN : Ctr := det (Int × Cll) (fun x => [nilP, i64 x.1, x.2.frN]) 0 (fun _ => []) (fun _ => True) (fun x => x.2.frN) 0 (fun _ => [])
def stW : Ctr := { X := Int × CP, args := fun x => [nilP, i64 x.1, x.2.c.frW 0], k := 1, os := fun x => [roomC x.2.cs], pre := fun x => Hd x.2.ok, outs := [{ Y := PS, post := fun _ _ => True, ret := fun x _ => x.2.c.frW 1, m := 2, os := fun x ps => [roomC x.2.cs, roomC (rowP x.2.c ps)] }] }
/-- With an arena, of another kind. -/
def saN (is : Int → Prop) : Ctr := det (Own × Cll) (fun x => [.ptr 0 0, i64 0, x.2.frN]) 1 (fun x => [.abs x.1]) (fun x => Hd (is x.2.kind)) (fun x => x.2.frN) 1 (fun x => [.abs x.1])
def saW (is : Int → Prop) : Ctr := { X := Own × CP, args := fun x => [.ptr 0 0, i64 0, x.2.c.frW 1], k := 2, os := fun x => [.abs x.1, roomC x.2.cs], pre := fun x => Hd (x.2.ok ∧ is x.2.c.kind), outs := [{ Y := PS, post := fun _ _ => True, ret := fun x _ => x.2.c.frW 2, m := 3, os := fun x ps => [.abs x.1, roomC x.2.cs, roomC (rowP x.2.c ps)] }] }
def isT (k : Int) : Prop := k ≠ 4 ∧ k ≠ 5
def isS (k : Int) : Prop := k ≠ 6
/-- Calls and frames of groups. -/
def grpW : AV → Bool
  | .agg (_ :: _ :: _ :: _ :: .slW _ _ _ _ :: _) => true
  | _ => false
def pickT (B A : WTr) : WTr := fun args h K => bif args.any grpW then B args h K else A args h K
theorem pickT_ok {P : Program} {f : FuncId} {A B : WTr} (hB : ∀ args h K, B args h K → Sp P f args h K) (hA : ∀ args h K, A args h K → Sp P f args h K) (args : List AV) (h : Heap) (K : AV → Heap → Prop) (hq : pickT B A args h K) : Sp P f args h K := by
  unfold pickT at hq
  cases hb : args.any grpW <;> rw [hb] at hq
  · exact hA _ _ _ hq
  · exact hB _ _ _ hq
def cloneT : WTr := pickT (ctrT cloneFW) (ctrT cloneFN)
theorem cloneT_ok (args : List AV) (h : Heap) (K : AV → Heap → Prop) (hq : cloneT args h K) : Sp Tryz.prog 45 args h K := pickT_ok (fun _ _ _ => ctrT_ok cloneFW_ok _ _ _) (fun _ _ _ => ctrT_ok cloneFN_ok _ _ _) _ _ _ hq
/-- What is not asked for. -/
def stopT : WTr := fun _ _ _ => False
theorem stopT_ok {P : Program} {f : FuncId} (args : List AV) (h : Heap) (K : AV → Heap → Prop) (hq : stopT args h K) : Sp P f args h K := hq.elim
end
end Go.Proofs.YtnlpcbdmllpddaaGreat
end
section
/- What is asked of steps that stay. -/
namespace Go.Proofs.YtnlpcbdmllpddaaGreat
open Go SE
def tStNVC_wp (x : Int × Cll) : Prop := wpF Tryz.prog [(45, cloneT), (161, stopT)] tt noAn 200 6 33 (stN.args x) (hO stN.k (stN.os x)) (fun v h' => endsP stN.k x v h' stN.outs)
def tStNVC (x : Int × Cll) : Prop :=
  (∃ (x_1 : @Cll), (True ∧
  (((((@Cll.kind x_1) = (@Cll.kind (@Prod.snd @Int @Cll x))) ∧
  (((@Cll.key x_1) = (@Cll.key (@Prod.snd @Int @Cll x))) ∧
  (((@Cll.value x_1) = (@Cll.value (@Prod.snd @Int @Cll x))) ∧
  (((@Cll.to x_1) = (@Cll.to (@Prod.snd @Int @Cll x))) ∧
  (((Value.slice (@Option.none @Addr) (0 : @Nat) (0 : @Nat)) = (Value.slice (@Option.none @Addr) (0 : @Nat) (0 : @Nat))) ∧
  (((0 : @Int) = (0 : @Int)) ∧
  (((0 : @Int) = (0 : @Int)) ∧
  ((@es = @es) ∧
  ((@Bool.false = @Bool.false) ∧
  (((0 : @Int) = (0 : @Int)) ∧
  ((@Bool.false = @Bool.false) ∧
  ((@es = @es) ∧
  (((0 : @Int) = (0 : @Int)) ∧
  (((0 : @Int) = (0 : @Int)) ∧
  (((0 : @Int) = (0 : @Int)) ∧
  (((0 : @Int) = (0 : @Int)) ∧
  (((-(1 : @Int)) = (-(1 : @Int))) ∧
  (((0 : @Int) = (0 : @Int)) ∧
  (((0 : @Int) = (0 : @Int)) ∧
  (((Value.slice (@Option.none @Addr) (0 : @Nat) (0 : @Nat)) = (Value.slice (@Option.none @Addr) (0 : @Nat) (0 : @Nat))) ∧
  (((0 : @Int) = (0 : @Int)) ∧
  (((Value.slice (@Option.none @Addr) (0 : @Nat) (0 : @Nat)) = (Value.slice (@Option.none @Addr) (0 : @Nat) (0 : @Nat))) ∧
  (((0 : @Int) = (0 : @Int)) ∧
  ((@Bool.false = @Bool.false) ∧
  ((@es = @es) ∧
  (((Value.slice (@Option.none @Addr) (0 : @Nat) (0 : @Nat)) = (Value.slice (@Option.none @Addr) (0 : @Nat) (0 : @Nat))) ∧
  (((Value.slice (@Option.none @Addr) (0 : @Nat) (0 : @Nat)) = (Value.slice (@Option.none @Addr) (0 : @Nat) (0 : @Nat))) ∧
  (((0 : @Int) = (0 : @Int)) ∧
  True)))))))))))))))))))))))))))) ∧
  True) ∧
  (True ∧
  (∀ (y : Unit), (True → (∃ (y_1 : Unit), (True ∧
  ((((@Cll.kind (@Prod.snd @Int @Cll x)) = (@Cll.kind x_1)) ∧
  (((@Cll.key (@Prod.snd @Int @Cll x)) = (@Cll.key x_1)) ∧
  (((@Cll.value (@Prod.snd @Int @Cll x)) = (@Cll.value x_1)) ∧
  (((@Cll.to (@Prod.snd @Int @Cll x)) = (@Cll.to x_1)) ∧
  (((Value.slice (@Option.none @Addr) (0 : @Nat) (0 : @Nat)) = (Value.slice (@Option.none @Addr) (0 : @Nat) (0 : @Nat))) ∧
  (((0 : @Int) = (0 : @Int)) ∧
  (((0 : @Int) = (0 : @Int)) ∧
  ((@es = @es) ∧
  ((@Bool.false = @Bool.false) ∧
  (((0 : @Int) = (0 : @Int)) ∧
  ((@Bool.false = @Bool.false) ∧
  ((@es = @es) ∧
  (((0 : @Int) = (0 : @Int)) ∧
  (((0 : @Int) = (0 : @Int)) ∧
  (((0 : @Int) = (0 : @Int)) ∧
  (((0 : @Int) = (0 : @Int)) ∧
  (((-(1 : @Int)) = (-(1 : @Int))) ∧
  (((0 : @Int) = (0 : @Int)) ∧
  (((0 : @Int) = (0 : @Int)) ∧
  (((Value.slice (@Option.none @Addr) (0 : @Nat) (0 : @Nat)) = (Value.slice (@Option.none @Addr) (0 : @Nat) (0 : @Nat))) ∧
  (((0 : @Int) = (0 : @Int)) ∧
  (((Value.slice (@Option.none @Addr) (0 : @Nat) (0 : @Nat)) = (Value.slice (@Option.none @Addr) (0 : @Nat) (0 : @Nat))) ∧
  (((0 : @Int) = (0 : @Int)) ∧
  ((@Bool.false = @Bool.false) ∧
  ((@es = @es) ∧
  (((Value.slice (@Option.none @Addr) (0 : @Nat) (0 : @Nat)) = (Value.slice (@Option.none @Addr) (0 : @Nat) (0 : @Nat))) ∧
  (((Value.slice (@Option.none @Addr) (0 : @Nat) (0 : @Nat)) = (Value.slice (@Option.none @Addr) (0 : @Nat) (0 : @Nat))) ∧
  (((0 : @Int) = (0 : @Int)) ∧
  True)))))))))))))))))))))))))))) ∧
  True)))))))))
theorem tStNVC_ok (x : Int × Cll) : tStNVC x = tStNVC_wp x := by kernel_rfl
def tStWVC_wp (x : Int × CP) : Prop := wpF Tryz.prog [(45, cloneT), (161, stopT)] tt noAn 200 6 33 (stW.args x) (hO stW.k (stW.os x)) (fun v h' => endsP stW.k x v h' stW.outs)
def tStWVC (x : Int × CP) : Prop :=
  (∃ (x_1 : @CP), ((@Hd (@CP.ok x_1)) ∧
  (((((@Cll.kind (@CP.c x_1)) = (@Cll.kind (@CP.c (@Prod.snd @Int @CP x)))) ∧
  (((@Cll.key (@CP.c x_1)) = (@Cll.key (@CP.c (@Prod.snd @Int @CP x)))) ∧
  (((@Cll.value (@CP.c x_1)) = (@Cll.value (@CP.c (@Prod.snd @Int @CP x)))) ∧
  (((@Cll.to (@CP.c x_1)) = (@Cll.to (@CP.c (@Prod.snd @Int @CP x)))) ∧
  ((((0 : @Nat) = (0 : @Nat)) ∧
  ((@Cll.gn (@CP.c x_1)) = (@Cll.gn (@CP.c (@Prod.snd @Int @CP x))))) ∧
  (((0 : @Int) = (0 : @Int)) ∧
  (((0 : @Int) = (0 : @Int)) ∧
  ((@es = @es) ∧
  ((@Bool.false = @Bool.false) ∧
  (((0 : @Int) = (0 : @Int)) ∧
  ((@Bool.false = @Bool.false) ∧
  ((@es = @es) ∧
  (((0 : @Int) = (0 : @Int)) ∧
  (((0 : @Int) = (0 : @Int)) ∧
  (((0 : @Int) = (0 : @Int)) ∧
  (((0 : @Int) = (0 : @Int)) ∧
  (((-(1 : @Int)) = (-(1 : @Int))) ∧
  (((0 : @Int) = (0 : @Int)) ∧
  (((0 : @Int) = (0 : @Int)) ∧
  (((Value.slice (@Option.none @Addr) (0 : @Nat) (0 : @Nat)) = (Value.slice (@Option.none @Addr) (0 : @Nat) (0 : @Nat))) ∧
  (((0 : @Int) = (0 : @Int)) ∧
  (((Value.slice (@Option.none @Addr) (0 : @Nat) (0 : @Nat)) = (Value.slice (@Option.none @Addr) (0 : @Nat) (0 : @Nat))) ∧
  (((0 : @Int) = (0 : @Int)) ∧
  ((@Bool.false = @Bool.false) ∧
  ((@es = @es) ∧
  (((Value.slice (@Option.none @Addr) (0 : @Nat) (0 : @Nat)) = (Value.slice (@Option.none @Addr) (0 : @Nat) (0 : @Nat))) ∧
  (((Value.slice (@Option.none @Addr) (0 : @Nat) (0 : @Nat)) = (Value.slice (@Option.none @Addr) (0 : @Nat) (0 : @Nat))) ∧
  (((0 : @Int) = (0 : @Int)) ∧
  True)))))))))))))))))))))))))))) ∧
  True) ∧
  (((((@Cll.gn (@CP.c x_1)) = (@Cll.gn (@CP.c (@Prod.snd @Int @CP x)))) ∧
  (∀ (q : @Nat), ((q < (@Cll.gn (@CP.c x_1))) → ([(Value.int @IntKind.i64 (@Mem.kind (@Cll.g (@CP.c x_1) q))), (Value.string (@Mem.key (@Cll.g (@CP.c x_1) q))), (Value.string (@Mem.value (@Cll.g (@CP.c x_1) q))), (Value.string (@Mem.to (@Cll.g (@CP.c x_1) q))), (Value.slice (@CP.p x_1 q) (0 : @Nat) (0 : @Nat))] = [(Value.int @IntKind.i64 (@Mem.kind (@Cll.g (@CP.c (@Prod.snd @Int @CP x)) q))), (Value.string (@Mem.key (@Cll.g (@CP.c (@Prod.snd @Int @CP x)) q))), (Value.string (@Mem.value (@Cll.g (@CP.c (@Prod.snd @Int @CP x)) q))), (Value.string (@Mem.to (@Cll.g (@CP.c (@Prod.snd @Int @CP x)) q))), (Value.slice (@CP.p (@Prod.snd @Int @CP x) q) (0 : @Nat) (0 : @Nat))])))) ∧
  True) ∧
  (∀ (y : (@Out.Y (@Ctr.X @cloneFW) (@Out.mk @CP @PS (fun (x_2 : @CP) => (fun (x_3 : @PS) => True)) (fun (x_2 : @CP) => (fun (x_3 : @PS) => (@Cll.frW (@CP.c x_2) (1 : @Nat)))) (2 : @Nat) (fun (x_2 : @CP) => (fun (ps : @PS) => [(@roomC (@CP.cs x_2)), (@roomC (@rowP (@CP.c x_2) ps))]))))), (True → (∃ (y_1 : (@Out.Y (@Prod @Int @CP) (@Out.mk (@Prod @Int @CP) @PS (fun (x_2 : (@Prod @Int @CP)) => (fun (x_3 : @PS) => True)) (fun (x_2 : (@Prod @Int @CP)) => (fun (x_3 : @PS) => (@Cll.frW (@CP.c (@Prod.snd @Int @CP x_2)) (1 : @Nat)))) (2 : @Nat) (fun (x_2 : (@Prod @Int @CP)) => (fun (ps : @PS) => [(@roomC (@CP.cs (@Prod.snd @Int @CP x_2))), (@roomC (@rowP (@CP.c (@Prod.snd @Int @CP x_2)) ps))]))))), (True ∧
  ((((@Cll.kind (@CP.c (@Prod.snd @Int @CP x))) = (@Cll.kind (@CP.c x_1))) ∧
  (((@Cll.key (@CP.c (@Prod.snd @Int @CP x))) = (@Cll.key (@CP.c x_1))) ∧
  (((@Cll.value (@CP.c (@Prod.snd @Int @CP x))) = (@Cll.value (@CP.c x_1))) ∧
  (((@Cll.to (@CP.c (@Prod.snd @Int @CP x))) = (@Cll.to (@CP.c x_1))) ∧
  ((((0 : @Nat) = (0 : @Nat)) ∧
  ((@Cll.gn (@CP.c (@Prod.snd @Int @CP x))) = (@Cll.gn (@CP.c x_1)))) ∧
  (((0 : @Int) = (0 : @Int)) ∧
  (((0 : @Int) = (0 : @Int)) ∧
  ((@es = @es) ∧
  ((@Bool.false = @Bool.false) ∧
  (((0 : @Int) = (0 : @Int)) ∧
  ((@Bool.false = @Bool.false) ∧
  ((@es = @es) ∧
  (((0 : @Int) = (0 : @Int)) ∧
  (((0 : @Int) = (0 : @Int)) ∧
  (((0 : @Int) = (0 : @Int)) ∧
  (((0 : @Int) = (0 : @Int)) ∧
  (((-(1 : @Int)) = (-(1 : @Int))) ∧
  (((0 : @Int) = (0 : @Int)) ∧
  (((0 : @Int) = (0 : @Int)) ∧
  (((Value.slice (@Option.none @Addr) (0 : @Nat) (0 : @Nat)) = (Value.slice (@Option.none @Addr) (0 : @Nat) (0 : @Nat))) ∧
  (((0 : @Int) = (0 : @Int)) ∧
  (((Value.slice (@Option.none @Addr) (0 : @Nat) (0 : @Nat)) = (Value.slice (@Option.none @Addr) (0 : @Nat) (0 : @Nat))) ∧
  (((0 : @Int) = (0 : @Int)) ∧
  ((@Bool.false = @Bool.false) ∧
  ((@es = @es) ∧
  (((Value.slice (@Option.none @Addr) (0 : @Nat) (0 : @Nat)) = (Value.slice (@Option.none @Addr) (0 : @Nat) (0 : @Nat))) ∧
  (((Value.slice (@Option.none @Addr) (0 : @Nat) (0 : @Nat)) = (Value.slice (@Option.none @Addr) (0 : @Nat) (0 : @Nat))) ∧
  (((0 : @Int) = (0 : @Int)) ∧
  True)))))))))))))))))))))))))))) ∧
  ((((@Cll.gn (@CP.c (@Prod.snd @Int @CP x))) = (@Cll.gn (@CP.c x_1))) ∧
  (∀ (q : @Nat), ((q < (@Cll.gn (@CP.c (@Prod.snd @Int @CP x)))) → ([(Value.int @IntKind.i64 (@Mem.kind (@Cll.g (@CP.c (@Prod.snd @Int @CP x)) q))), (Value.string (@Mem.key (@Cll.g (@CP.c (@Prod.snd @Int @CP x)) q))), (Value.string (@Mem.value (@Cll.g (@CP.c (@Prod.snd @Int @CP x)) q))), (Value.string (@Mem.to (@Cll.g (@CP.c (@Prod.snd @Int @CP x)) q))), (Value.slice (@CP.p (@Prod.snd @Int @CP x) q) (0 : @Nat) (0 : @Nat))] = [(Value.int @IntKind.i64 (@Mem.kind (@Cll.g (@CP.c x_1) q))), (Value.string (@Mem.key (@Cll.g (@CP.c x_1) q))), (Value.string (@Mem.value (@Cll.g (@CP.c x_1) q))), (Value.string (@Mem.to (@Cll.g (@CP.c x_1) q))), (Value.slice (@CP.p x_1 q) (0 : @Nat) (0 : @Nat))])))) ∧
  ((((@Cll.gn (@CP.c (@Prod.snd @Int @CP x))) = (@Cll.gn (@CP.c x_1))) ∧
  (∀ (q : @Nat), ((q < (@Cll.gn (@CP.c (@Prod.snd @Int @CP x)))) → ([(Value.int @IntKind.i64 (@Mem.kind (@Cll.g (@CP.c (@Prod.snd @Int @CP x)) q))), (Value.string (@Mem.key (@Cll.g (@CP.c (@Prod.snd @Int @CP x)) q))), (Value.string (@Mem.value (@Cll.g (@CP.c (@Prod.snd @Int @CP x)) q))), (Value.string (@Mem.to (@Cll.g (@CP.c (@Prod.snd @Int @CP x)) q))), (Value.slice (y_1 q) (0 : @Nat) (0 : @Nat))] = [(Value.int @IntKind.i64 (@Mem.kind (@Cll.g (@CP.c x_1) q))), (Value.string (@Mem.key (@Cll.g (@CP.c x_1) q))), (Value.string (@Mem.value (@Cll.g (@CP.c x_1) q))), (Value.string (@Mem.to (@Cll.g (@CP.c x_1) q))), (Value.slice (y q) (0 : @Nat) (0 : @Nat))])))) ∧
  True)))))))))))
theorem tStWVC_ok (x : Int × CP) : tStWVC x = tStWVC_wp x := by kernel_rfl
def tSaNVC_wp (x : Own × Cll) : Prop := wpF Tryz.prog [(45, cloneT), (161, stopT)] tt noAn 200 6 33 ((saN isT).args x) (hO (saN isT).k ((saN isT).os x)) (fun v h' => endsP (saN isT).k x v h' (saN isT).outs)
def tSaNVC (x : Own × Cll) : Prop :=
  (∃ (x_1 : @Cll), (True ∧
  (((((@Cll.kind x_1) = (@Cll.kind (@Prod.snd @Own @Cll x))) ∧
  (((@Cll.key x_1) = (@Cll.key (@Prod.snd @Own @Cll x))) ∧
  (((@Cll.value x_1) = (@Cll.value (@Prod.snd @Own @Cll x))) ∧
  (((@Cll.to x_1) = (@Cll.to (@Prod.snd @Own @Cll x))) ∧
  (((Value.slice (@Option.none @Addr) (0 : @Nat) (0 : @Nat)) = (Value.slice (@Option.none @Addr) (0 : @Nat) (0 : @Nat))) ∧
  (((0 : @Int) = (0 : @Int)) ∧
  (((0 : @Int) = (0 : @Int)) ∧
  ((@es = @es) ∧
  ((@Bool.false = @Bool.false) ∧
  (((0 : @Int) = (0 : @Int)) ∧
  ((@Bool.false = @Bool.false) ∧
  ((@es = @es) ∧
  (((0 : @Int) = (0 : @Int)) ∧
  (((0 : @Int) = (0 : @Int)) ∧
  (((0 : @Int) = (0 : @Int)) ∧
  (((0 : @Int) = (0 : @Int)) ∧
  (((-(1 : @Int)) = (-(1 : @Int))) ∧
  (((0 : @Int) = (0 : @Int)) ∧
  (((0 : @Int) = (0 : @Int)) ∧
  (((Value.slice (@Option.none @Addr) (0 : @Nat) (0 : @Nat)) = (Value.slice (@Option.none @Addr) (0 : @Nat) (0 : @Nat))) ∧
  (((0 : @Int) = (0 : @Int)) ∧
  (((Value.slice (@Option.none @Addr) (0 : @Nat) (0 : @Nat)) = (Value.slice (@Option.none @Addr) (0 : @Nat) (0 : @Nat))) ∧
  (((0 : @Int) = (0 : @Int)) ∧
  ((@Bool.false = @Bool.false) ∧
  ((@es = @es) ∧
  (((Value.slice (@Option.none @Addr) (0 : @Nat) (0 : @Nat)) = (Value.slice (@Option.none @Addr) (0 : @Nat) (0 : @Nat))) ∧
  (((Value.slice (@Option.none @Addr) (0 : @Nat) (0 : @Nat)) = (Value.slice (@Option.none @Addr) (0 : @Nat) (0 : @Nat))) ∧
  (((0 : @Int) = (0 : @Int)) ∧
  True)))))))))))))))))))))))))))) ∧
  True) ∧
  (True ∧
  (∀ (y : Unit), (True → (cP (@Bool.not (@BEq.beq @Int (@instBEqOfDecidableEq @Int @Int.instDecidableEq) (@Cll.kind (@Prod.snd @Own @Cll x)) (4 : @Int))) (cP (@Bool.not (@BEq.beq @Int (@instBEqOfDecidableEq @Int @Int.instDecidableEq) (@Cll.kind (@Prod.snd @Own @Cll x)) (5 : @Int))) (∃ (y_1 : Unit), (True ∧
  ((((@Cll.kind (@Prod.snd @Own @Cll x)) = (@Cll.kind x_1)) ∧
  (((@Cll.key (@Prod.snd @Own @Cll x)) = (@Cll.key x_1)) ∧
  (((@Cll.value (@Prod.snd @Own @Cll x)) = (@Cll.value x_1)) ∧
  (((@Cll.to (@Prod.snd @Own @Cll x)) = (@Cll.to x_1)) ∧
  (((Value.slice (@Option.none @Addr) (0 : @Nat) (0 : @Nat)) = (Value.slice (@Option.none @Addr) (0 : @Nat) (0 : @Nat))) ∧
  (((0 : @Int) = (0 : @Int)) ∧
  (((0 : @Int) = (0 : @Int)) ∧
  ((@es = @es) ∧
  ((@Bool.false = @Bool.false) ∧
  (((0 : @Int) = (0 : @Int)) ∧
  ((@Bool.false = @Bool.false) ∧
  ((@es = @es) ∧
  (((0 : @Int) = (0 : @Int)) ∧
  (((0 : @Int) = (0 : @Int)) ∧
  (((0 : @Int) = (0 : @Int)) ∧
  (((0 : @Int) = (0 : @Int)) ∧
  (((-(1 : @Int)) = (-(1 : @Int))) ∧
  (((0 : @Int) = (0 : @Int)) ∧
  (((0 : @Int) = (0 : @Int)) ∧
  (((Value.slice (@Option.none @Addr) (0 : @Nat) (0 : @Nat)) = (Value.slice (@Option.none @Addr) (0 : @Nat) (0 : @Nat))) ∧
  (((0 : @Int) = (0 : @Int)) ∧
  (((Value.slice (@Option.none @Addr) (0 : @Nat) (0 : @Nat)) = (Value.slice (@Option.none @Addr) (0 : @Nat) (0 : @Nat))) ∧
  (((0 : @Int) = (0 : @Int)) ∧
  ((@Bool.false = @Bool.false) ∧
  ((@es = @es) ∧
  (((Value.slice (@Option.none @Addr) (0 : @Nat) (0 : @Nat)) = (Value.slice (@Option.none @Addr) (0 : @Nat) (0 : @Nat))) ∧
  (((Value.slice (@Option.none @Addr) (0 : @Nat) (0 : @Nat)) = (Value.slice (@Option.none @Addr) (0 : @Nat) (0 : @Nat))) ∧
  (((0 : @Int) = (0 : @Int)) ∧
  True)))))))))))))))))))))))))))) ∧
  (((@Prod.fst @Own @Cll x) = (@Prod.fst @Own @Cll x)) ∧
  True)))) (cP (@BEq.beq @Int (@instBEqOfDecidableEq @Int @Int.instDecidableEq) (@Cll.kind (@Prod.snd @Own @Cll x)) (4 : @Int)) ((((0 : @Int) ≤ (0 : @Int)) ∧
  ((0 : @Int) ≤ (6 : @Int))) ∧
  False) ((((0 : @Int) ≤ (0 : @Int)) ∧
  ((0 : @Int) ≤ (6 : @Int))) ∧
  False))) (cP (@BEq.beq @Int (@instBEqOfDecidableEq @Int @Int.instDecidableEq) (@Cll.kind (@Prod.snd @Own @Cll x)) (4 : @Int)) ((((0 : @Int) ≤ (0 : @Int)) ∧
  ((0 : @Int) ≤ (6 : @Int))) ∧
  False) ((((0 : @Int) ≤ (0 : @Int)) ∧
  ((0 : @Int) ≤ (6 : @Int))) ∧
  False)))))))))
theorem tSaNVC_ok (x : Own × Cll) : tSaNVC x = tSaNVC_wp x := by kernel_rfl
def tSaWVC_wp (x : Own × CP) : Prop := wpF Tryz.prog [(45, cloneT), (161, stopT)] tt noAn 200 6 33 ((saW isT).args x) (hO (saW isT).k ((saW isT).os x)) (fun v h' => endsP (saW isT).k x v h' (saW isT).outs)
def tSaWVC (x : Own × CP) : Prop :=
  (∃ (x_1 : @CP), ((@Hd (@CP.ok x_1)) ∧
  (((((@Cll.kind (@CP.c x_1)) = (@Cll.kind (@CP.c (@Prod.snd @Own @CP x)))) ∧
  (((@Cll.key (@CP.c x_1)) = (@Cll.key (@CP.c (@Prod.snd @Own @CP x)))) ∧
  (((@Cll.value (@CP.c x_1)) = (@Cll.value (@CP.c (@Prod.snd @Own @CP x)))) ∧
  (((@Cll.to (@CP.c x_1)) = (@Cll.to (@CP.c (@Prod.snd @Own @CP x)))) ∧
  ((((0 : @Nat) = (0 : @Nat)) ∧
  ((@Cll.gn (@CP.c x_1)) = (@Cll.gn (@CP.c (@Prod.snd @Own @CP x))))) ∧
  (((0 : @Int) = (0 : @Int)) ∧
  (((0 : @Int) = (0 : @Int)) ∧
  ((@es = @es) ∧
  ((@Bool.false = @Bool.false) ∧
  (((0 : @Int) = (0 : @Int)) ∧
  ((@Bool.false = @Bool.false) ∧
  ((@es = @es) ∧
  (((0 : @Int) = (0 : @Int)) ∧
  (((0 : @Int) = (0 : @Int)) ∧
  (((0 : @Int) = (0 : @Int)) ∧
  (((0 : @Int) = (0 : @Int)) ∧
  (((-(1 : @Int)) = (-(1 : @Int))) ∧
  (((0 : @Int) = (0 : @Int)) ∧
  (((0 : @Int) = (0 : @Int)) ∧
  (((Value.slice (@Option.none @Addr) (0 : @Nat) (0 : @Nat)) = (Value.slice (@Option.none @Addr) (0 : @Nat) (0 : @Nat))) ∧
  (((0 : @Int) = (0 : @Int)) ∧
  (((Value.slice (@Option.none @Addr) (0 : @Nat) (0 : @Nat)) = (Value.slice (@Option.none @Addr) (0 : @Nat) (0 : @Nat))) ∧
  (((0 : @Int) = (0 : @Int)) ∧
  ((@Bool.false = @Bool.false) ∧
  ((@es = @es) ∧
  (((Value.slice (@Option.none @Addr) (0 : @Nat) (0 : @Nat)) = (Value.slice (@Option.none @Addr) (0 : @Nat) (0 : @Nat))) ∧
  (((Value.slice (@Option.none @Addr) (0 : @Nat) (0 : @Nat)) = (Value.slice (@Option.none @Addr) (0 : @Nat) (0 : @Nat))) ∧
  (((0 : @Int) = (0 : @Int)) ∧
  True)))))))))))))))))))))))))))) ∧
  True) ∧
  (((((@Cll.gn (@CP.c x_1)) = (@Cll.gn (@CP.c (@Prod.snd @Own @CP x)))) ∧
  (∀ (q : @Nat), ((q < (@Cll.gn (@CP.c x_1))) → ([(Value.int @IntKind.i64 (@Mem.kind (@Cll.g (@CP.c x_1) q))), (Value.string (@Mem.key (@Cll.g (@CP.c x_1) q))), (Value.string (@Mem.value (@Cll.g (@CP.c x_1) q))), (Value.string (@Mem.to (@Cll.g (@CP.c x_1) q))), (Value.slice (@CP.p x_1 q) (0 : @Nat) (0 : @Nat))] = [(Value.int @IntKind.i64 (@Mem.kind (@Cll.g (@CP.c (@Prod.snd @Own @CP x)) q))), (Value.string (@Mem.key (@Cll.g (@CP.c (@Prod.snd @Own @CP x)) q))), (Value.string (@Mem.value (@Cll.g (@CP.c (@Prod.snd @Own @CP x)) q))), (Value.string (@Mem.to (@Cll.g (@CP.c (@Prod.snd @Own @CP x)) q))), (Value.slice (@CP.p (@Prod.snd @Own @CP x) q) (0 : @Nat) (0 : @Nat))])))) ∧
  True) ∧
  (∀ (y : (@Out.Y (@Ctr.X @cloneFW) (@Out.mk @CP @PS (fun (x_2 : @CP) => (fun (x_3 : @PS) => True)) (fun (x_2 : @CP) => (fun (x_3 : @PS) => (@Cll.frW (@CP.c x_2) (1 : @Nat)))) (2 : @Nat) (fun (x_2 : @CP) => (fun (ps : @PS) => [(@roomC (@CP.cs x_2)), (@roomC (@rowP (@CP.c x_2) ps))]))))), (True → (cP (@Bool.not (@BEq.beq @Int (@instBEqOfDecidableEq @Int @Int.instDecidableEq) (@Cll.kind (@CP.c (@Prod.snd @Own @CP x))) (4 : @Int))) (cP (@Bool.not (@BEq.beq @Int (@instBEqOfDecidableEq @Int @Int.instDecidableEq) (@Cll.kind (@CP.c (@Prod.snd @Own @CP x))) (5 : @Int))) (∃ (y_1 : (@Out.Y (@Prod @Own @CP) (@Out.mk (@Prod @Own @CP) @PS (fun (x_2 : (@Prod @Own @CP)) => (fun (x_3 : @PS) => True)) (fun (x_2 : (@Prod @Own @CP)) => (fun (x_3 : @PS) => (@Cll.frW (@CP.c (@Prod.snd @Own @CP x_2)) (2 : @Nat)))) (3 : @Nat) (fun (x_2 : (@Prod @Own @CP)) => (fun (ps : @PS) => [(@AObj.abs (@Prod.fst @Own @CP x_2)), (@roomC (@CP.cs (@Prod.snd @Own @CP x_2))), (@roomC (@rowP (@CP.c (@Prod.snd @Own @CP x_2)) ps))]))))), (True ∧
  ((((@Cll.kind (@CP.c (@Prod.snd @Own @CP x))) = (@Cll.kind (@CP.c x_1))) ∧
  (((@Cll.key (@CP.c (@Prod.snd @Own @CP x))) = (@Cll.key (@CP.c x_1))) ∧
  (((@Cll.value (@CP.c (@Prod.snd @Own @CP x))) = (@Cll.value (@CP.c x_1))) ∧
  (((@Cll.to (@CP.c (@Prod.snd @Own @CP x))) = (@Cll.to (@CP.c x_1))) ∧
  ((((0 : @Nat) = (0 : @Nat)) ∧
  ((@Cll.gn (@CP.c (@Prod.snd @Own @CP x))) = (@Cll.gn (@CP.c x_1)))) ∧
  (((0 : @Int) = (0 : @Int)) ∧
  (((0 : @Int) = (0 : @Int)) ∧
  ((@es = @es) ∧
  ((@Bool.false = @Bool.false) ∧
  (((0 : @Int) = (0 : @Int)) ∧
  ((@Bool.false = @Bool.false) ∧
  ((@es = @es) ∧
  (((0 : @Int) = (0 : @Int)) ∧
  (((0 : @Int) = (0 : @Int)) ∧
  (((0 : @Int) = (0 : @Int)) ∧
  (((0 : @Int) = (0 : @Int)) ∧
  (((-(1 : @Int)) = (-(1 : @Int))) ∧
  (((0 : @Int) = (0 : @Int)) ∧
  (((0 : @Int) = (0 : @Int)) ∧
  (((Value.slice (@Option.none @Addr) (0 : @Nat) (0 : @Nat)) = (Value.slice (@Option.none @Addr) (0 : @Nat) (0 : @Nat))) ∧
  (((0 : @Int) = (0 : @Int)) ∧
  (((Value.slice (@Option.none @Addr) (0 : @Nat) (0 : @Nat)) = (Value.slice (@Option.none @Addr) (0 : @Nat) (0 : @Nat))) ∧
  (((0 : @Int) = (0 : @Int)) ∧
  ((@Bool.false = @Bool.false) ∧
  ((@es = @es) ∧
  (((Value.slice (@Option.none @Addr) (0 : @Nat) (0 : @Nat)) = (Value.slice (@Option.none @Addr) (0 : @Nat) (0 : @Nat))) ∧
  (((Value.slice (@Option.none @Addr) (0 : @Nat) (0 : @Nat)) = (Value.slice (@Option.none @Addr) (0 : @Nat) (0 : @Nat))) ∧
  (((0 : @Int) = (0 : @Int)) ∧
  True)))))))))))))))))))))))))))) ∧
  (((@Prod.fst @Own @CP x) = (@Prod.fst @Own @CP x)) ∧
  ((((@Cll.gn (@CP.c (@Prod.snd @Own @CP x))) = (@Cll.gn (@CP.c x_1))) ∧
  (∀ (q : @Nat), ((q < (@Cll.gn (@CP.c (@Prod.snd @Own @CP x)))) → ([(Value.int @IntKind.i64 (@Mem.kind (@Cll.g (@CP.c (@Prod.snd @Own @CP x)) q))), (Value.string (@Mem.key (@Cll.g (@CP.c (@Prod.snd @Own @CP x)) q))), (Value.string (@Mem.value (@Cll.g (@CP.c (@Prod.snd @Own @CP x)) q))), (Value.string (@Mem.to (@Cll.g (@CP.c (@Prod.snd @Own @CP x)) q))), (Value.slice (@CP.p (@Prod.snd @Own @CP x) q) (0 : @Nat) (0 : @Nat))] = [(Value.int @IntKind.i64 (@Mem.kind (@Cll.g (@CP.c x_1) q))), (Value.string (@Mem.key (@Cll.g (@CP.c x_1) q))), (Value.string (@Mem.value (@Cll.g (@CP.c x_1) q))), (Value.string (@Mem.to (@Cll.g (@CP.c x_1) q))), (Value.slice (@CP.p x_1 q) (0 : @Nat) (0 : @Nat))])))) ∧
  ((((@Cll.gn (@CP.c (@Prod.snd @Own @CP x))) = (@Cll.gn (@CP.c x_1))) ∧
  (∀ (q : @Nat), ((q < (@Cll.gn (@CP.c (@Prod.snd @Own @CP x)))) → ([(Value.int @IntKind.i64 (@Mem.kind (@Cll.g (@CP.c (@Prod.snd @Own @CP x)) q))), (Value.string (@Mem.key (@Cll.g (@CP.c (@Prod.snd @Own @CP x)) q))), (Value.string (@Mem.value (@Cll.g (@CP.c (@Prod.snd @Own @CP x)) q))), (Value.string (@Mem.to (@Cll.g (@CP.c (@Prod.snd @Own @CP x)) q))), (Value.slice (y_1 q) (0 : @Nat) (0 : @Nat))] = [(Value.int @IntKind.i64 (@Mem.kind (@Cll.g (@CP.c x_1) q))), (Value.string (@Mem.key (@Cll.g (@CP.c x_1) q))), (Value.string (@Mem.value (@Cll.g (@CP.c x_1) q))), (Value.string (@Mem.to (@Cll.g (@CP.c x_1) q))), (Value.slice (y q) (0 : @Nat) (0 : @Nat))])))) ∧
  True)))))) (cP (@BEq.beq @Int (@instBEqOfDecidableEq @Int @Int.instDecidableEq) (@Cll.kind (@CP.c (@Prod.snd @Own @CP x))) (4 : @Int)) ((((0 : @Int) ≤ (0 : @Int)) ∧
  ((0 : @Int) ≤ (6 : @Int))) ∧
  False) ((((0 : @Int) ≤ (0 : @Int)) ∧
  ((0 : @Int) ≤ (6 : @Int))) ∧
  False))) (cP (@BEq.beq @Int (@instBEqOfDecidableEq @Int @Int.instDecidableEq) (@Cll.kind (@CP.c (@Prod.snd @Own @CP x))) (4 : @Int)) ((((0 : @Int) ≤ (0 : @Int)) ∧
  ((0 : @Int) ≤ (6 : @Int))) ∧
  False) ((((0 : @Int) ≤ (0 : @Int)) ∧
  ((0 : @Int) ≤ (6 : @Int))) ∧
  False)))))))))
theorem tSaWVC_ok (x : Own × CP) : tSaWVC x = tSaWVC_wp x := by kernel_rfl
def sStNVC_wp (x : Int × Cll) : Prop := wpF Tryz.prog [(45, cloneT), (184, stopT)] tt noAn 200 6 40 (stN.args x) (hO stN.k (stN.os x)) (fun v h' => endsP stN.k x v h' stN.outs)
def sStNVC (x : Int × Cll) : Prop :=
  (∃ (x_1 : @Cll), (True ∧
  (((((@Cll.kind x_1) = (@Cll.kind (@Prod.snd @Int @Cll x))) ∧
  (((@Cll.key x_1) = (@Cll.key (@Prod.snd @Int @Cll x))) ∧
  (((@Cll.value x_1) = (@Cll.value (@Prod.snd @Int @Cll x))) ∧
  (((@Cll.to x_1) = (@Cll.to (@Prod.snd @Int @Cll x))) ∧
  (((Value.slice (@Option.none @Addr) (0 : @Nat) (0 : @Nat)) = (Value.slice (@Option.none @Addr) (0 : @Nat) (0 : @Nat))) ∧
  (((0 : @Int) = (0 : @Int)) ∧
  (((0 : @Int) = (0 : @Int)) ∧
  ((@es = @es) ∧
  ((@Bool.false = @Bool.false) ∧
  (((0 : @Int) = (0 : @Int)) ∧
  ((@Bool.false = @Bool.false) ∧
  ((@es = @es) ∧
  (((0 : @Int) = (0 : @Int)) ∧
  (((0 : @Int) = (0 : @Int)) ∧
  (((0 : @Int) = (0 : @Int)) ∧
  (((0 : @Int) = (0 : @Int)) ∧
  (((-(1 : @Int)) = (-(1 : @Int))) ∧
  (((0 : @Int) = (0 : @Int)) ∧
  (((0 : @Int) = (0 : @Int)) ∧
  (((Value.slice (@Option.none @Addr) (0 : @Nat) (0 : @Nat)) = (Value.slice (@Option.none @Addr) (0 : @Nat) (0 : @Nat))) ∧
  (((0 : @Int) = (0 : @Int)) ∧
  (((Value.slice (@Option.none @Addr) (0 : @Nat) (0 : @Nat)) = (Value.slice (@Option.none @Addr) (0 : @Nat) (0 : @Nat))) ∧
  (((0 : @Int) = (0 : @Int)) ∧
  ((@Bool.false = @Bool.false) ∧
  ((@es = @es) ∧
  (((Value.slice (@Option.none @Addr) (0 : @Nat) (0 : @Nat)) = (Value.slice (@Option.none @Addr) (0 : @Nat) (0 : @Nat))) ∧
  (((Value.slice (@Option.none @Addr) (0 : @Nat) (0 : @Nat)) = (Value.slice (@Option.none @Addr) (0 : @Nat) (0 : @Nat))) ∧
  (((0 : @Int) = (0 : @Int)) ∧
  True)))))))))))))))))))))))))))) ∧
  True) ∧
  (True ∧
  (∀ (y : Unit), (True → (∃ (y_1 : Unit), (True ∧
  ((((@Cll.kind (@Prod.snd @Int @Cll x)) = (@Cll.kind x_1)) ∧
  (((@Cll.key (@Prod.snd @Int @Cll x)) = (@Cll.key x_1)) ∧
  (((@Cll.value (@Prod.snd @Int @Cll x)) = (@Cll.value x_1)) ∧
  (((@Cll.to (@Prod.snd @Int @Cll x)) = (@Cll.to x_1)) ∧
  (((Value.slice (@Option.none @Addr) (0 : @Nat) (0 : @Nat)) = (Value.slice (@Option.none @Addr) (0 : @Nat) (0 : @Nat))) ∧
  (((0 : @Int) = (0 : @Int)) ∧
  (((0 : @Int) = (0 : @Int)) ∧
  ((@es = @es) ∧
  ((@Bool.false = @Bool.false) ∧
  (((0 : @Int) = (0 : @Int)) ∧
  ((@Bool.false = @Bool.false) ∧
  ((@es = @es) ∧
  (((0 : @Int) = (0 : @Int)) ∧
  (((0 : @Int) = (0 : @Int)) ∧
  (((0 : @Int) = (0 : @Int)) ∧
  (((0 : @Int) = (0 : @Int)) ∧
  (((-(1 : @Int)) = (-(1 : @Int))) ∧
  (((0 : @Int) = (0 : @Int)) ∧
  (((0 : @Int) = (0 : @Int)) ∧
  (((Value.slice (@Option.none @Addr) (0 : @Nat) (0 : @Nat)) = (Value.slice (@Option.none @Addr) (0 : @Nat) (0 : @Nat))) ∧
  (((0 : @Int) = (0 : @Int)) ∧
  (((Value.slice (@Option.none @Addr) (0 : @Nat) (0 : @Nat)) = (Value.slice (@Option.none @Addr) (0 : @Nat) (0 : @Nat))) ∧
  (((0 : @Int) = (0 : @Int)) ∧
  ((@Bool.false = @Bool.false) ∧
  ((@es = @es) ∧
  (((Value.slice (@Option.none @Addr) (0 : @Nat) (0 : @Nat)) = (Value.slice (@Option.none @Addr) (0 : @Nat) (0 : @Nat))) ∧
  (((Value.slice (@Option.none @Addr) (0 : @Nat) (0 : @Nat)) = (Value.slice (@Option.none @Addr) (0 : @Nat) (0 : @Nat))) ∧
  (((0 : @Int) = (0 : @Int)) ∧
  True)))))))))))))))))))))))))))) ∧
  True)))))))))
theorem sStNVC_ok (x : Int × Cll) : sStNVC x = sStNVC_wp x := by kernel_rfl
def sStWVC_wp (x : Int × CP) : Prop := wpF Tryz.prog [(45, cloneT), (184, stopT)] tt noAn 200 6 40 (stW.args x) (hO stW.k (stW.os x)) (fun v h' => endsP stW.k x v h' stW.outs)
def sStWVC (x : Int × CP) : Prop :=
  (∃ (x_1 : @CP), ((@Hd (@CP.ok x_1)) ∧
  (((((@Cll.kind (@CP.c x_1)) = (@Cll.kind (@CP.c (@Prod.snd @Int @CP x)))) ∧
  (((@Cll.key (@CP.c x_1)) = (@Cll.key (@CP.c (@Prod.snd @Int @CP x)))) ∧
  (((@Cll.value (@CP.c x_1)) = (@Cll.value (@CP.c (@Prod.snd @Int @CP x)))) ∧
  (((@Cll.to (@CP.c x_1)) = (@Cll.to (@CP.c (@Prod.snd @Int @CP x)))) ∧
  ((((0 : @Nat) = (0 : @Nat)) ∧
  ((@Cll.gn (@CP.c x_1)) = (@Cll.gn (@CP.c (@Prod.snd @Int @CP x))))) ∧
  (((0 : @Int) = (0 : @Int)) ∧
  (((0 : @Int) = (0 : @Int)) ∧
  ((@es = @es) ∧
  ((@Bool.false = @Bool.false) ∧
  (((0 : @Int) = (0 : @Int)) ∧
  ((@Bool.false = @Bool.false) ∧
  ((@es = @es) ∧
  (((0 : @Int) = (0 : @Int)) ∧
  (((0 : @Int) = (0 : @Int)) ∧
  (((0 : @Int) = (0 : @Int)) ∧
  (((0 : @Int) = (0 : @Int)) ∧
  (((-(1 : @Int)) = (-(1 : @Int))) ∧
  (((0 : @Int) = (0 : @Int)) ∧
  (((0 : @Int) = (0 : @Int)) ∧
  (((Value.slice (@Option.none @Addr) (0 : @Nat) (0 : @Nat)) = (Value.slice (@Option.none @Addr) (0 : @Nat) (0 : @Nat))) ∧
  (((0 : @Int) = (0 : @Int)) ∧
  (((Value.slice (@Option.none @Addr) (0 : @Nat) (0 : @Nat)) = (Value.slice (@Option.none @Addr) (0 : @Nat) (0 : @Nat))) ∧
  (((0 : @Int) = (0 : @Int)) ∧
  ((@Bool.false = @Bool.false) ∧
  ((@es = @es) ∧
  (((Value.slice (@Option.none @Addr) (0 : @Nat) (0 : @Nat)) = (Value.slice (@Option.none @Addr) (0 : @Nat) (0 : @Nat))) ∧
  (((Value.slice (@Option.none @Addr) (0 : @Nat) (0 : @Nat)) = (Value.slice (@Option.none @Addr) (0 : @Nat) (0 : @Nat))) ∧
  (((0 : @Int) = (0 : @Int)) ∧
  True)))))))))))))))))))))))))))) ∧
  True) ∧
  (((((@Cll.gn (@CP.c x_1)) = (@Cll.gn (@CP.c (@Prod.snd @Int @CP x)))) ∧
  (∀ (q : @Nat), ((q < (@Cll.gn (@CP.c x_1))) → ([(Value.int @IntKind.i64 (@Mem.kind (@Cll.g (@CP.c x_1) q))), (Value.string (@Mem.key (@Cll.g (@CP.c x_1) q))), (Value.string (@Mem.value (@Cll.g (@CP.c x_1) q))), (Value.string (@Mem.to (@Cll.g (@CP.c x_1) q))), (Value.slice (@CP.p x_1 q) (0 : @Nat) (0 : @Nat))] = [(Value.int @IntKind.i64 (@Mem.kind (@Cll.g (@CP.c (@Prod.snd @Int @CP x)) q))), (Value.string (@Mem.key (@Cll.g (@CP.c (@Prod.snd @Int @CP x)) q))), (Value.string (@Mem.value (@Cll.g (@CP.c (@Prod.snd @Int @CP x)) q))), (Value.string (@Mem.to (@Cll.g (@CP.c (@Prod.snd @Int @CP x)) q))), (Value.slice (@CP.p (@Prod.snd @Int @CP x) q) (0 : @Nat) (0 : @Nat))])))) ∧
  True) ∧
  (∀ (y : (@Out.Y (@Ctr.X @cloneFW) (@Out.mk @CP @PS (fun (x_2 : @CP) => (fun (x_3 : @PS) => True)) (fun (x_2 : @CP) => (fun (x_3 : @PS) => (@Cll.frW (@CP.c x_2) (1 : @Nat)))) (2 : @Nat) (fun (x_2 : @CP) => (fun (ps : @PS) => [(@roomC (@CP.cs x_2)), (@roomC (@rowP (@CP.c x_2) ps))]))))), (True → (∃ (y_1 : (@Out.Y (@Prod @Int @CP) (@Out.mk (@Prod @Int @CP) @PS (fun (x_2 : (@Prod @Int @CP)) => (fun (x_3 : @PS) => True)) (fun (x_2 : (@Prod @Int @CP)) => (fun (x_3 : @PS) => (@Cll.frW (@CP.c (@Prod.snd @Int @CP x_2)) (1 : @Nat)))) (2 : @Nat) (fun (x_2 : (@Prod @Int @CP)) => (fun (ps : @PS) => [(@roomC (@CP.cs (@Prod.snd @Int @CP x_2))), (@roomC (@rowP (@CP.c (@Prod.snd @Int @CP x_2)) ps))]))))), (True ∧
  ((((@Cll.kind (@CP.c (@Prod.snd @Int @CP x))) = (@Cll.kind (@CP.c x_1))) ∧
  (((@Cll.key (@CP.c (@Prod.snd @Int @CP x))) = (@Cll.key (@CP.c x_1))) ∧
  (((@Cll.value (@CP.c (@Prod.snd @Int @CP x))) = (@Cll.value (@CP.c x_1))) ∧
  (((@Cll.to (@CP.c (@Prod.snd @Int @CP x))) = (@Cll.to (@CP.c x_1))) ∧
  ((((0 : @Nat) = (0 : @Nat)) ∧
  ((@Cll.gn (@CP.c (@Prod.snd @Int @CP x))) = (@Cll.gn (@CP.c x_1)))) ∧
  (((0 : @Int) = (0 : @Int)) ∧
  (((0 : @Int) = (0 : @Int)) ∧
  ((@es = @es) ∧
  ((@Bool.false = @Bool.false) ∧
  (((0 : @Int) = (0 : @Int)) ∧
  ((@Bool.false = @Bool.false) ∧
  ((@es = @es) ∧
  (((0 : @Int) = (0 : @Int)) ∧
  (((0 : @Int) = (0 : @Int)) ∧
  (((0 : @Int) = (0 : @Int)) ∧
  (((0 : @Int) = (0 : @Int)) ∧
  (((-(1 : @Int)) = (-(1 : @Int))) ∧
  (((0 : @Int) = (0 : @Int)) ∧
  (((0 : @Int) = (0 : @Int)) ∧
  (((Value.slice (@Option.none @Addr) (0 : @Nat) (0 : @Nat)) = (Value.slice (@Option.none @Addr) (0 : @Nat) (0 : @Nat))) ∧
  (((0 : @Int) = (0 : @Int)) ∧
  (((Value.slice (@Option.none @Addr) (0 : @Nat) (0 : @Nat)) = (Value.slice (@Option.none @Addr) (0 : @Nat) (0 : @Nat))) ∧
  (((0 : @Int) = (0 : @Int)) ∧
  ((@Bool.false = @Bool.false) ∧
  ((@es = @es) ∧
  (((Value.slice (@Option.none @Addr) (0 : @Nat) (0 : @Nat)) = (Value.slice (@Option.none @Addr) (0 : @Nat) (0 : @Nat))) ∧
  (((Value.slice (@Option.none @Addr) (0 : @Nat) (0 : @Nat)) = (Value.slice (@Option.none @Addr) (0 : @Nat) (0 : @Nat))) ∧
  (((0 : @Int) = (0 : @Int)) ∧
  True)))))))))))))))))))))))))))) ∧
  ((((@Cll.gn (@CP.c (@Prod.snd @Int @CP x))) = (@Cll.gn (@CP.c x_1))) ∧
  (∀ (q : @Nat), ((q < (@Cll.gn (@CP.c (@Prod.snd @Int @CP x)))) → ([(Value.int @IntKind.i64 (@Mem.kind (@Cll.g (@CP.c (@Prod.snd @Int @CP x)) q))), (Value.string (@Mem.key (@Cll.g (@CP.c (@Prod.snd @Int @CP x)) q))), (Value.string (@Mem.value (@Cll.g (@CP.c (@Prod.snd @Int @CP x)) q))), (Value.string (@Mem.to (@Cll.g (@CP.c (@Prod.snd @Int @CP x)) q))), (Value.slice (@CP.p (@Prod.snd @Int @CP x) q) (0 : @Nat) (0 : @Nat))] = [(Value.int @IntKind.i64 (@Mem.kind (@Cll.g (@CP.c x_1) q))), (Value.string (@Mem.key (@Cll.g (@CP.c x_1) q))), (Value.string (@Mem.value (@Cll.g (@CP.c x_1) q))), (Value.string (@Mem.to (@Cll.g (@CP.c x_1) q))), (Value.slice (@CP.p x_1 q) (0 : @Nat) (0 : @Nat))])))) ∧
  ((((@Cll.gn (@CP.c (@Prod.snd @Int @CP x))) = (@Cll.gn (@CP.c x_1))) ∧
  (∀ (q : @Nat), ((q < (@Cll.gn (@CP.c (@Prod.snd @Int @CP x)))) → ([(Value.int @IntKind.i64 (@Mem.kind (@Cll.g (@CP.c (@Prod.snd @Int @CP x)) q))), (Value.string (@Mem.key (@Cll.g (@CP.c (@Prod.snd @Int @CP x)) q))), (Value.string (@Mem.value (@Cll.g (@CP.c (@Prod.snd @Int @CP x)) q))), (Value.string (@Mem.to (@Cll.g (@CP.c (@Prod.snd @Int @CP x)) q))), (Value.slice (y_1 q) (0 : @Nat) (0 : @Nat))] = [(Value.int @IntKind.i64 (@Mem.kind (@Cll.g (@CP.c x_1) q))), (Value.string (@Mem.key (@Cll.g (@CP.c x_1) q))), (Value.string (@Mem.value (@Cll.g (@CP.c x_1) q))), (Value.string (@Mem.to (@Cll.g (@CP.c x_1) q))), (Value.slice (y q) (0 : @Nat) (0 : @Nat))])))) ∧
  True)))))))))))
theorem sStWVC_ok (x : Int × CP) : sStWVC x = sStWVC_wp x := by kernel_rfl
def sSaNVC_wp (x : Own × Cll) : Prop := wpF Tryz.prog [(45, cloneT), (184, stopT)] tt noAn 200 6 40 ((saN isS).args x) (hO (saN isS).k ((saN isS).os x)) (fun v h' => endsP (saN isS).k x v h' (saN isS).outs)
def sSaNVC (x : Own × Cll) : Prop :=
  (∃ (x_1 : @Cll), (True ∧
  (((((@Cll.kind x_1) = (@Cll.kind (@Prod.snd @Own @Cll x))) ∧
  (((@Cll.key x_1) = (@Cll.key (@Prod.snd @Own @Cll x))) ∧
  (((@Cll.value x_1) = (@Cll.value (@Prod.snd @Own @Cll x))) ∧
  (((@Cll.to x_1) = (@Cll.to (@Prod.snd @Own @Cll x))) ∧
  (((Value.slice (@Option.none @Addr) (0 : @Nat) (0 : @Nat)) = (Value.slice (@Option.none @Addr) (0 : @Nat) (0 : @Nat))) ∧
  (((0 : @Int) = (0 : @Int)) ∧
  (((0 : @Int) = (0 : @Int)) ∧
  ((@es = @es) ∧
  ((@Bool.false = @Bool.false) ∧
  (((0 : @Int) = (0 : @Int)) ∧
  ((@Bool.false = @Bool.false) ∧
  ((@es = @es) ∧
  (((0 : @Int) = (0 : @Int)) ∧
  (((0 : @Int) = (0 : @Int)) ∧
  (((0 : @Int) = (0 : @Int)) ∧
  (((0 : @Int) = (0 : @Int)) ∧
  (((-(1 : @Int)) = (-(1 : @Int))) ∧
  (((0 : @Int) = (0 : @Int)) ∧
  (((0 : @Int) = (0 : @Int)) ∧
  (((Value.slice (@Option.none @Addr) (0 : @Nat) (0 : @Nat)) = (Value.slice (@Option.none @Addr) (0 : @Nat) (0 : @Nat))) ∧
  (((0 : @Int) = (0 : @Int)) ∧
  (((Value.slice (@Option.none @Addr) (0 : @Nat) (0 : @Nat)) = (Value.slice (@Option.none @Addr) (0 : @Nat) (0 : @Nat))) ∧
  (((0 : @Int) = (0 : @Int)) ∧
  ((@Bool.false = @Bool.false) ∧
  ((@es = @es) ∧
  (((Value.slice (@Option.none @Addr) (0 : @Nat) (0 : @Nat)) = (Value.slice (@Option.none @Addr) (0 : @Nat) (0 : @Nat))) ∧
  (((Value.slice (@Option.none @Addr) (0 : @Nat) (0 : @Nat)) = (Value.slice (@Option.none @Addr) (0 : @Nat) (0 : @Nat))) ∧
  (((0 : @Int) = (0 : @Int)) ∧
  True)))))))))))))))))))))))))))) ∧
  True) ∧
  (True ∧
  (∀ (y : Unit), (True → (cP (@bne @Int (@instBEqOfDecidableEq @Int @Int.instDecidableEq) (@Cll.kind (@Prod.snd @Own @Cll x)) (6 : @Int)) (∃ (y_1 : Unit), (True ∧
  ((((@Cll.kind (@Prod.snd @Own @Cll x)) = (@Cll.kind x_1)) ∧
  (((@Cll.key (@Prod.snd @Own @Cll x)) = (@Cll.key x_1)) ∧
  (((@Cll.value (@Prod.snd @Own @Cll x)) = (@Cll.value x_1)) ∧
  (((@Cll.to (@Prod.snd @Own @Cll x)) = (@Cll.to x_1)) ∧
  (((Value.slice (@Option.none @Addr) (0 : @Nat) (0 : @Nat)) = (Value.slice (@Option.none @Addr) (0 : @Nat) (0 : @Nat))) ∧
  (((0 : @Int) = (0 : @Int)) ∧
  (((0 : @Int) = (0 : @Int)) ∧
  ((@es = @es) ∧
  ((@Bool.false = @Bool.false) ∧
  (((0 : @Int) = (0 : @Int)) ∧
  ((@Bool.false = @Bool.false) ∧
  ((@es = @es) ∧
  (((0 : @Int) = (0 : @Int)) ∧
  (((0 : @Int) = (0 : @Int)) ∧
  (((0 : @Int) = (0 : @Int)) ∧
  (((0 : @Int) = (0 : @Int)) ∧
  (((-(1 : @Int)) = (-(1 : @Int))) ∧
  (((0 : @Int) = (0 : @Int)) ∧
  (((0 : @Int) = (0 : @Int)) ∧
  (((Value.slice (@Option.none @Addr) (0 : @Nat) (0 : @Nat)) = (Value.slice (@Option.none @Addr) (0 : @Nat) (0 : @Nat))) ∧
  (((0 : @Int) = (0 : @Int)) ∧
  (((Value.slice (@Option.none @Addr) (0 : @Nat) (0 : @Nat)) = (Value.slice (@Option.none @Addr) (0 : @Nat) (0 : @Nat))) ∧
  (((0 : @Int) = (0 : @Int)) ∧
  ((@Bool.false = @Bool.false) ∧
  ((@es = @es) ∧
  (((Value.slice (@Option.none @Addr) (0 : @Nat) (0 : @Nat)) = (Value.slice (@Option.none @Addr) (0 : @Nat) (0 : @Nat))) ∧
  (((Value.slice (@Option.none @Addr) (0 : @Nat) (0 : @Nat)) = (Value.slice (@Option.none @Addr) (0 : @Nat) (0 : @Nat))) ∧
  (((0 : @Int) = (0 : @Int)) ∧
  True)))))))))))))))))))))))))))) ∧
  (((@Prod.fst @Own @Cll x) = (@Prod.fst @Own @Cll x)) ∧
  True)))) ((((0 : @Int) ≤ (0 : @Int)) ∧
  ((0 : @Int) ≤ (9 : @Int))) ∧
  ((((0 : @Int) ≤ (0 : @Int)) ∧
  ((0 : @Int) ≤ (9 : @Int))) ∧
  False)))))))))
theorem sSaNVC_ok (x : Own × Cll) : sSaNVC x = sSaNVC_wp x := by kernel_rfl
def sSaWVC_wp (x : Own × CP) : Prop := wpF Tryz.prog [(45, cloneT), (184, stopT)] tt noAn 200 6 40 ((saW isS).args x) (hO (saW isS).k ((saW isS).os x)) (fun v h' => endsP (saW isS).k x v h' (saW isS).outs)
def sSaWVC (x : Own × CP) : Prop :=
  (∃ (x_1 : @CP), ((@Hd (@CP.ok x_1)) ∧
  (((((@Cll.kind (@CP.c x_1)) = (@Cll.kind (@CP.c (@Prod.snd @Own @CP x)))) ∧
  (((@Cll.key (@CP.c x_1)) = (@Cll.key (@CP.c (@Prod.snd @Own @CP x)))) ∧
  (((@Cll.value (@CP.c x_1)) = (@Cll.value (@CP.c (@Prod.snd @Own @CP x)))) ∧
  (((@Cll.to (@CP.c x_1)) = (@Cll.to (@CP.c (@Prod.snd @Own @CP x)))) ∧
  ((((0 : @Nat) = (0 : @Nat)) ∧
  ((@Cll.gn (@CP.c x_1)) = (@Cll.gn (@CP.c (@Prod.snd @Own @CP x))))) ∧
  (((0 : @Int) = (0 : @Int)) ∧
  (((0 : @Int) = (0 : @Int)) ∧
  ((@es = @es) ∧
  ((@Bool.false = @Bool.false) ∧
  (((0 : @Int) = (0 : @Int)) ∧
  ((@Bool.false = @Bool.false) ∧
  ((@es = @es) ∧
  (((0 : @Int) = (0 : @Int)) ∧
  (((0 : @Int) = (0 : @Int)) ∧
  (((0 : @Int) = (0 : @Int)) ∧
  (((0 : @Int) = (0 : @Int)) ∧
  (((-(1 : @Int)) = (-(1 : @Int))) ∧
  (((0 : @Int) = (0 : @Int)) ∧
  (((0 : @Int) = (0 : @Int)) ∧
  (((Value.slice (@Option.none @Addr) (0 : @Nat) (0 : @Nat)) = (Value.slice (@Option.none @Addr) (0 : @Nat) (0 : @Nat))) ∧
  (((0 : @Int) = (0 : @Int)) ∧
  (((Value.slice (@Option.none @Addr) (0 : @Nat) (0 : @Nat)) = (Value.slice (@Option.none @Addr) (0 : @Nat) (0 : @Nat))) ∧
  (((0 : @Int) = (0 : @Int)) ∧
  ((@Bool.false = @Bool.false) ∧
  ((@es = @es) ∧
  (((Value.slice (@Option.none @Addr) (0 : @Nat) (0 : @Nat)) = (Value.slice (@Option.none @Addr) (0 : @Nat) (0 : @Nat))) ∧
  (((Value.slice (@Option.none @Addr) (0 : @Nat) (0 : @Nat)) = (Value.slice (@Option.none @Addr) (0 : @Nat) (0 : @Nat))) ∧
  (((0 : @Int) = (0 : @Int)) ∧
  True)))))))))))))))))))))))))))) ∧
  True) ∧
  (((((@Cll.gn (@CP.c x_1)) = (@Cll.gn (@CP.c (@Prod.snd @Own @CP x)))) ∧
  (∀ (q : @Nat), ((q < (@Cll.gn (@CP.c x_1))) → ([(Value.int @IntKind.i64 (@Mem.kind (@Cll.g (@CP.c x_1) q))), (Value.string (@Mem.key (@Cll.g (@CP.c x_1) q))), (Value.string (@Mem.value (@Cll.g (@CP.c x_1) q))), (Value.string (@Mem.to (@Cll.g (@CP.c x_1) q))), (Value.slice (@CP.p x_1 q) (0 : @Nat) (0 : @Nat))] = [(Value.int @IntKind.i64 (@Mem.kind (@Cll.g (@CP.c (@Prod.snd @Own @CP x)) q))), (Value.string (@Mem.key (@Cll.g (@CP.c (@Prod.snd @Own @CP x)) q))), (Value.string (@Mem.value (@Cll.g (@CP.c (@Prod.snd @Own @CP x)) q))), (Value.string (@Mem.to (@Cll.g (@CP.c (@Prod.snd @Own @CP x)) q))), (Value.slice (@CP.p (@Prod.snd @Own @CP x) q) (0 : @Nat) (0 : @Nat))])))) ∧
  True) ∧
  (∀ (y : (@Out.Y (@Ctr.X @cloneFW) (@Out.mk @CP @PS (fun (x_2 : @CP) => (fun (x_3 : @PS) => True)) (fun (x_2 : @CP) => (fun (x_3 : @PS) => (@Cll.frW (@CP.c x_2) (1 : @Nat)))) (2 : @Nat) (fun (x_2 : @CP) => (fun (ps : @PS) => [(@roomC (@CP.cs x_2)), (@roomC (@rowP (@CP.c x_2) ps))]))))), (True → (cP (@bne @Int (@instBEqOfDecidableEq @Int @Int.instDecidableEq) (@Cll.kind (@CP.c (@Prod.snd @Own @CP x))) (6 : @Int)) (∃ (y_1 : (@Out.Y (@Prod @Own @CP) (@Out.mk (@Prod @Own @CP) @PS (fun (x_2 : (@Prod @Own @CP)) => (fun (x_3 : @PS) => True)) (fun (x_2 : (@Prod @Own @CP)) => (fun (x_3 : @PS) => (@Cll.frW (@CP.c (@Prod.snd @Own @CP x_2)) (2 : @Nat)))) (3 : @Nat) (fun (x_2 : (@Prod @Own @CP)) => (fun (ps : @PS) => [(@AObj.abs (@Prod.fst @Own @CP x_2)), (@roomC (@CP.cs (@Prod.snd @Own @CP x_2))), (@roomC (@rowP (@CP.c (@Prod.snd @Own @CP x_2)) ps))]))))), (True ∧
  ((((@Cll.kind (@CP.c (@Prod.snd @Own @CP x))) = (@Cll.kind (@CP.c x_1))) ∧
  (((@Cll.key (@CP.c (@Prod.snd @Own @CP x))) = (@Cll.key (@CP.c x_1))) ∧
  (((@Cll.value (@CP.c (@Prod.snd @Own @CP x))) = (@Cll.value (@CP.c x_1))) ∧
  (((@Cll.to (@CP.c (@Prod.snd @Own @CP x))) = (@Cll.to (@CP.c x_1))) ∧
  ((((0 : @Nat) = (0 : @Nat)) ∧
  ((@Cll.gn (@CP.c (@Prod.snd @Own @CP x))) = (@Cll.gn (@CP.c x_1)))) ∧
  (((0 : @Int) = (0 : @Int)) ∧
  (((0 : @Int) = (0 : @Int)) ∧
  ((@es = @es) ∧
  ((@Bool.false = @Bool.false) ∧
  (((0 : @Int) = (0 : @Int)) ∧
  ((@Bool.false = @Bool.false) ∧
  ((@es = @es) ∧
  (((0 : @Int) = (0 : @Int)) ∧
  (((0 : @Int) = (0 : @Int)) ∧
  (((0 : @Int) = (0 : @Int)) ∧
  (((0 : @Int) = (0 : @Int)) ∧
  (((-(1 : @Int)) = (-(1 : @Int))) ∧
  (((0 : @Int) = (0 : @Int)) ∧
  (((0 : @Int) = (0 : @Int)) ∧
  (((Value.slice (@Option.none @Addr) (0 : @Nat) (0 : @Nat)) = (Value.slice (@Option.none @Addr) (0 : @Nat) (0 : @Nat))) ∧
  (((0 : @Int) = (0 : @Int)) ∧
  (((Value.slice (@Option.none @Addr) (0 : @Nat) (0 : @Nat)) = (Value.slice (@Option.none @Addr) (0 : @Nat) (0 : @Nat))) ∧
  (((0 : @Int) = (0 : @Int)) ∧
  ((@Bool.false = @Bool.false) ∧
  ((@es = @es) ∧
  (((Value.slice (@Option.none @Addr) (0 : @Nat) (0 : @Nat)) = (Value.slice (@Option.none @Addr) (0 : @Nat) (0 : @Nat))) ∧
  (((Value.slice (@Option.none @Addr) (0 : @Nat) (0 : @Nat)) = (Value.slice (@Option.none @Addr) (0 : @Nat) (0 : @Nat))) ∧
  (((0 : @Int) = (0 : @Int)) ∧
  True)))))))))))))))))))))))))))) ∧
  (((@Prod.fst @Own @CP x) = (@Prod.fst @Own @CP x)) ∧
  ((((@Cll.gn (@CP.c (@Prod.snd @Own @CP x))) = (@Cll.gn (@CP.c x_1))) ∧
  (∀ (q : @Nat), ((q < (@Cll.gn (@CP.c (@Prod.snd @Own @CP x)))) → ([(Value.int @IntKind.i64 (@Mem.kind (@Cll.g (@CP.c (@Prod.snd @Own @CP x)) q))), (Value.string (@Mem.key (@Cll.g (@CP.c (@Prod.snd @Own @CP x)) q))), (Value.string (@Mem.value (@Cll.g (@CP.c (@Prod.snd @Own @CP x)) q))), (Value.string (@Mem.to (@Cll.g (@CP.c (@Prod.snd @Own @CP x)) q))), (Value.slice (@CP.p (@Prod.snd @Own @CP x) q) (0 : @Nat) (0 : @Nat))] = [(Value.int @IntKind.i64 (@Mem.kind (@Cll.g (@CP.c x_1) q))), (Value.string (@Mem.key (@Cll.g (@CP.c x_1) q))), (Value.string (@Mem.value (@Cll.g (@CP.c x_1) q))), (Value.string (@Mem.to (@Cll.g (@CP.c x_1) q))), (Value.slice (@CP.p x_1 q) (0 : @Nat) (0 : @Nat))])))) ∧
  ((((@Cll.gn (@CP.c (@Prod.snd @Own @CP x))) = (@Cll.gn (@CP.c x_1))) ∧
  (∀ (q : @Nat), ((q < (@Cll.gn (@CP.c (@Prod.snd @Own @CP x)))) → ([(Value.int @IntKind.i64 (@Mem.kind (@Cll.g (@CP.c (@Prod.snd @Own @CP x)) q))), (Value.string (@Mem.key (@Cll.g (@CP.c (@Prod.snd @Own @CP x)) q))), (Value.string (@Mem.value (@Cll.g (@CP.c (@Prod.snd @Own @CP x)) q))), (Value.string (@Mem.to (@Cll.g (@CP.c (@Prod.snd @Own @CP x)) q))), (Value.slice (y_1 q) (0 : @Nat) (0 : @Nat))] = [(Value.int @IntKind.i64 (@Mem.kind (@Cll.g (@CP.c x_1) q))), (Value.string (@Mem.key (@Cll.g (@CP.c x_1) q))), (Value.string (@Mem.value (@Cll.g (@CP.c x_1) q))), (Value.string (@Mem.to (@Cll.g (@CP.c x_1) q))), (Value.slice (y q) (0 : @Nat) (0 : @Nat))])))) ∧
  True)))))) ((((0 : @Int) ≤ (0 : @Int)) ∧
  ((0 : @Int) ≤ (9 : @Int))) ∧
  ((((0 : @Int) ≤ (0 : @Int)) ∧
  ((0 : @Int) ≤ (9 : @Int))) ∧
  False)))))))))
theorem sSaWVC_ok (x : Own × CP) : sSaWVC x = sSaWVC_wp x := by kernel_rfl
end Go.Proofs.YtnlpcbdmllpddaaGreat
end
