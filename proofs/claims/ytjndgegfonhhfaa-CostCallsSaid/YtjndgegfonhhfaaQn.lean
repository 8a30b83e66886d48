import Derived.Test.YtjndgegfonhhfaaQa
import Derived.Test.YtjndgegfonhhfaaQb
import Derived.Test.YtjndgegfonhhfaaQc
import Derived.Test.YtjndgegfonhhfaaQd
import Derived.Test.YtjndgegfonhhfaaQe
import Derived.Test.YtjndgegfonhhfaaQf
import Derived.Test.YtjndgegfonhhfaaQg
import Derived.Test.YtjndgegfonhhfaaQh
import Derived.Test.YtjndgegfonhhfaaQi
import Derived.Test.YtjndgegfonhhfaaQj
import Derived.Test.YtjndgegfonhhfaaQk
import Derived.Test.YtjndgegfonhhfaaQl
import Derived.Test.YtjndgegfonhhfaaQm
import Derived.KernelRfl
section
/- What is asked of CostCalls. -/
namespace Go.Proofs.Ytjndgegfonhhfaa
open Go SE
noncomputable section
def tblQ : WTbl := [(9, ctrT greatC), (10, ctrT weightC), (12, ctrT callC), (13, ctrT callC), (11, awakeT)]
end
def costCallsVC_wp (x : SC) : Prop := wpF Try.prog tblQ tt (fun _ _ _ _ => []) 200 5 3 [x.s.avZ 0 1, x.c.av 2] (hO 3 x.os) (fun v h' => endP 3 (.lit (.bool true)) x.os v h')
def costCallsVC (x : SC) : Prop :=
  (∃ (x_1 : @Shf), (True ∧
  ((((((0 : @Nat) = (0 : @Nat)) ∧
  ((@Shf.n x_1) = (@Shf.n (@SC.s x)))) ∧
  ((((0 : @Nat) = (0 : @Nat)) ∧
  ((@Shf.m x_1) = (@Shf.m (@SC.s x)))) ∧
  True)) ∧
  True) ∧
  (((((@Shf.n x_1) = (@Shf.n (@SC.s x))) ∧
  (∀ (q : @Nat), ((q < (@Shf.n x_1)) → ([(Value.string (@Shf.pk x_1 q)), (Value.string (@Shf.pv x_1 q))] = [(Value.string (@Shf.pk (@SC.s x) q)), (Value.string (@Shf.pv (@SC.s x) q))])))) ∧
  ((((@Shf.m x_1) = (@Shf.m (@SC.s x))) ∧
  (∀ (q : @Nat), ((q < (@Shf.m x_1)) → ([(Value.string (@Shf.qv x_1 q))] = [(Value.string (@Shf.qv (@SC.s x) q))])))) ∧
  True)) ∧
  (∀ (y : @Bool), ((@Hd ((y = @Bool.false) → (@Shf.small x_1))) → (cP y ((@Bool.true = @Bool.true) ∧
  ((((@rowP (@SC.s x)) = (@rowP (@SC.s x))) ∧
  (@Bool.true = @Bool.true)) ∧
  ((((@rowQ (@SC.s x)) = (@rowQ (@SC.s x))) ∧
  (@Bool.true = @Bool.true)) ∧
  ((((@rowG (@SC.c x)) = (@rowG (@SC.c x))) ∧
  (@Bool.true = @Bool.true)) ∧
  True)))) (∃ (x_2 : @Cll), (True ∧
  (((((@Cll.kind x_2) = (@Cll.kind (@SC.c x))) ∧
  (((@Cll.key x_2) = (@Cll.key (@SC.c x))) ∧
  (((@Cll.value x_2) = (@Cll.value (@SC.c x))) ∧
  (((@Cll.to x_2) = (@Cll.to (@SC.c x))) ∧
  ((((0 : @Nat) = (0 : @Nat)) ∧
  ((@Cll.gn x_2) = (@Cll.gn (@SC.c x)))) ∧
  True))))) ∧
  (((1500 : @Int) = (1500 : @Int)) ∧
  True)) ∧
  (((((@Cll.gn x_2) = (@Cll.gn (@SC.c x))) ∧
  (∀ (q : @Nat), ((q < (@Cll.gn x_2)) → ([(Value.int @IntKind.i64 (@Mem.kind (@Cll.g x_2 q))), (Value.string (@Mem.key (@Cll.g x_2 q))), (Value.string (@Mem.value (@Cll.g x_2 q))), (Value.string (@Mem.to (@Cll.g x_2 q))), (Value.slice (@Mem.gp (@Cll.g x_2 q)) (@Mem.gn (@Cll.g x_2 q)) (@Mem.gc (@Cll.g x_2 q)))] = [(Value.int @IntKind.i64 (@Mem.kind (@Cll.g (@SC.c x) q))), (Value.string (@Mem.key (@Cll.g (@SC.c x) q))), (Value.string (@Mem.value (@Cll.g (@SC.c x) q))), (Value.string (@Mem.to (@Cll.g (@SC.c x) q))), (Value.slice (@Mem.gp (@Cll.g (@SC.c x) q)) (@Mem.gn (@Cll.g (@SC.c x) q)) (@Mem.gc (@Cll.g (@SC.c x) q)))])))) ∧
  True) ∧
  (∀ (y_1 : @Int), ((@Hd ((y_1 ≤ (1500 : @Int)) → (@Cll.small x_2))) → (cP (decide (@GT.gt @Int @Int.instLTInt y_1 (1500 : @Int))) ((@Bool.true = @Bool.true) ∧
  ((((@rowP (@SC.s x)) = (@rowP (@SC.s x))) ∧
  (@Bool.true = @Bool.true)) ∧
  ((((@rowQ (@SC.s x)) = (@rowQ (@SC.s x))) ∧
  (@Bool.true = @Bool.true)) ∧
  ((((@rowG (@SC.c x)) = (@rowG (@SC.c x))) ∧
  (@Bool.true = @Bool.true)) ∧
  True)))) (∃ (x_3 : @SC), ((@Hd (@SC.ok x_3)) ∧
  ((((((@Shf.zp (@SC.s x_3)) = (@Shf.zp (@SC.s x))) ∧
  (((0 : @Nat) = (0 : @Nat)) ∧
  ((@Shf.n (@SC.s x_3)) = (@Shf.n (@SC.s x))))) ∧
  ((((@Shf.zq (@SC.s x_3)) = (@Shf.zq (@SC.s x))) ∧
  (((0 : @Nat) = (0 : @Nat)) ∧
  ((@Shf.m (@SC.s x_3)) = (@Shf.m (@SC.s x))))) ∧
  True)) ∧
  ((((@Cll.kind (@SC.c x_3)) = (@Cll.kind (@SC.c x))) ∧
  (((@Cll.key (@SC.c x_3)) = (@Cll.key (@SC.c x))) ∧
  (((@Cll.value (@SC.c x_3)) = (@Cll.value (@SC.c x))) ∧
  (((@Cll.to (@SC.c x_3)) = (@Cll.to (@SC.c x))) ∧
  ((((0 : @Nat) = (0 : @Nat)) ∧
  ((@Cll.gn (@SC.c x_3)) = (@Cll.gn (@SC.c x)))) ∧
  True))))) ∧
  True)) ∧
  (((((@Shf.n (@SC.s x_3)) = (@Shf.n (@SC.s x))) ∧
  (∀ (q : @Nat), ((q < (@Shf.n (@SC.s x_3))) → ([(Value.string (@Shf.pk (@SC.s x_3) q)), (Value.string (@Shf.pv (@SC.s x_3) q))] = [(Value.string (@Shf.pk (@SC.s x) q)), (Value.string (@Shf.pv (@SC.s x) q))])))) ∧
  ((((@Shf.m (@SC.s x_3)) = (@Shf.m (@SC.s x))) ∧
  (∀ (q : @Nat), ((q < (@Shf.m (@SC.s x_3))) → ([(Value.string (@Shf.qv (@SC.s x_3) q))] = [(Value.string (@Shf.qv (@SC.s x) q))])))) ∧
  ((((@Cll.gn (@SC.c x_3)) = (@Cll.gn (@SC.c x))) ∧
  (∀ (q : @Nat), ((q < (@Cll.gn (@SC.c x_3))) → ([(Value.int @IntKind.i64 (@Mem.kind (@Cll.g (@SC.c x_3) q))), (Value.string (@Mem.key (@Cll.g (@SC.c x_3) q))), (Value.string (@Mem.value (@Cll.g (@SC.c x_3) q))), (Value.string (@Mem.to (@Cll.g (@SC.c x_3) q))), (Value.slice (@Mem.gp (@Cll.g (@SC.c x_3) q)) (@Mem.gn (@Cll.g (@SC.c x_3) q)) (@Mem.gc (@Cll.g (@SC.c x_3) q)))] = [(Value.int @IntKind.i64 (@Mem.kind (@Cll.g (@SC.c x) q))), (Value.string (@Mem.key (@Cll.g (@SC.c x) q))), (Value.string (@Mem.value (@Cll.g (@SC.c x) q))), (Value.string (@Mem.to (@Cll.g (@SC.c x) q))), (Value.slice (@Mem.gp (@Cll.g (@SC.c x) q)) (@Mem.gn (@Cll.g (@SC.c x) q)) (@Mem.gc (@Cll.g (@SC.c x) q)))])))) ∧
  True))) ∧
  (∀ (y_2 : Unit), (True → ((((AV.agg [(AV.lit (Value.int @IntKind.i64 (@Cll.kind (@SC.c x)))), (AV.lit (Value.string (@Cll.key (@SC.c x)))), (AV.lit (Value.string (@Cll.value (@SC.c x)))), (AV.lit (Value.string (@Cll.to (@SC.c x)))), (AV.slR (2 : @Nat) (0 : @Nat) (5 : @Nat) (@Cll.gn (@SC.c x)))]) = (AV.agg [(AV.lit (Value.int @IntKind.i64 (@Cll.kind (@SC.c x)))), (AV.lit (Value.string (@Cll.key (@SC.c x)))), (AV.lit (Value.string (@Cll.value (@SC.c x)))), (AV.lit (Value.string (@Cll.to (@SC.c x)))), (AV.slR (2 : @Nat) (0 : @Nat) (5 : @Nat) (@Cll.gn (@SC.c x)))])) ∧
  (((AV.agg [(AV.slZ (@Shf.zp (@SC.s x)) (0 : @Nat) (0 : @Nat) (2 : @Nat) (@Shf.n (@SC.s x))), (AV.slZ (@Shf.zq (@SC.s x)) (1 : @Nat) (0 : @Nat) (1 : @Nat) (@Shf.m (@SC.s x)))]) = (AV.agg [(AV.slZ (@Shf.zp (@SC.s x)) (0 : @Nat) (0 : @Nat) (2 : @Nat) (@Shf.n (@SC.s x))), (AV.slZ (@Shf.zq (@SC.s x)) (1 : @Nat) (0 : @Nat) (1 : @Nat) (@Shf.m (@SC.s x)))])) ∧
  True)) ∧
  (∃ (x_4 : @SC), ((@Hd (@SC.ok x_4)) ∧
  ((((((@Shf.zp (@SC.s x_4)) = (@Shf.zp (@SC.s x))) ∧
  (((0 : @Nat) = (0 : @Nat)) ∧
  ((@Shf.n (@SC.s x_4)) = (@Shf.n (@SC.s x))))) ∧
  ((((@Shf.zq (@SC.s x_4)) = (@Shf.zq (@SC.s x))) ∧
  (((0 : @Nat) = (0 : @Nat)) ∧
  ((@Shf.m (@SC.s x_4)) = (@Shf.m (@SC.s x))))) ∧
  True)) ∧
  ((((@Cll.kind (@SC.c x_4)) = (@Cll.kind (@SC.c x))) ∧
  (((@Cll.key (@SC.c x_4)) = (@Cll.key (@SC.c x))) ∧
  (((@Cll.value (@SC.c x_4)) = (@Cll.value (@SC.c x))) ∧
  (((@Cll.to (@SC.c x_4)) = (@Cll.to (@SC.c x))) ∧
  ((((0 : @Nat) = (0 : @Nat)) ∧
  ((@Cll.gn (@SC.c x_4)) = (@Cll.gn (@SC.c x)))) ∧
  True))))) ∧
  True)) ∧
  (((((@Shf.n (@SC.s x_4)) = (@Shf.n (@SC.s x))) ∧
  (∀ (q : @Nat), ((q < (@Shf.n (@SC.s x_4))) → ([(Value.string (@Shf.pk (@SC.s x_4) q)), (Value.string (@Shf.pv (@SC.s x_4) q))] = [(Value.string (@Shf.pk (@SC.s x) q)), (Value.string (@Shf.pv (@SC.s x) q))])))) ∧
  ((((@Shf.m (@SC.s x_4)) = (@Shf.m (@SC.s x))) ∧
  (∀ (q : @Nat), ((q < (@Shf.m (@SC.s x_4))) → ([(Value.string (@Shf.qv (@SC.s x_4) q))] = [(Value.string (@Shf.qv (@SC.s x) q))])))) ∧
  ((((@Cll.gn (@SC.c x_4)) = (@Cll.gn (@SC.c x))) ∧
  (∀ (q : @Nat), ((q < (@Cll.gn (@SC.c x_4))) → ([(Value.int @IntKind.i64 (@Mem.kind (@Cll.g (@SC.c x_4) q))), (Value.string (@Mem.key (@Cll.g (@SC.c x_4) q))), (Value.string (@Mem.value (@Cll.g (@SC.c x_4) q))), (Value.string (@Mem.to (@Cll.g (@SC.c x_4) q))), (Value.slice (@Mem.gp (@Cll.g (@SC.c x_4) q)) (@Mem.gn (@Cll.g (@SC.c x_4) q)) (@Mem.gc (@Cll.g (@SC.c x_4) q)))] = [(Value.int @IntKind.i64 (@Mem.kind (@Cll.g (@SC.c x) q))), (Value.string (@Mem.key (@Cll.g (@SC.c x) q))), (Value.string (@Mem.value (@Cll.g (@SC.c x) q))), (Value.string (@Mem.to (@Cll.g (@SC.c x) q))), (Value.slice (@Mem.gp (@Cll.g (@SC.c x) q)) (@Mem.gn (@Cll.g (@SC.c x) q)) (@Mem.gc (@Cll.g (@SC.c x) q)))])))) ∧
  True))) ∧
  (∀ (y_3 : Unit), (True → (True ∧
  (cP (@Bool.and (@BEq.beq @Int (@instBEqOfDecidableEq @Int @Int.instDecidableEq) (@Cst.s0 (@callM (@SC.s x_3) (@SC.c x_3))) (@Cst.s0 (@callM (@SC.s x_4) (@SC.c x_4)))) (@Bool.and (@BEq.beq @Int (@instBEqOfDecidableEq @Int @Int.instDecidableEq) (@Cst.s1 (@callM (@SC.s x_3) (@SC.c x_3))) (@Cst.s1 (@callM (@SC.s x_4) (@SC.c x_4)))) (@Bool.and (@BEq.beq @Int (@instBEqOfDecidableEq @Int @Int.instDecidableEq) (@Cst.s2 (@callM (@SC.s x_3) (@SC.c x_3))) (@Cst.s2 (@callM (@SC.s x_4) (@SC.c x_4)))) (@Bool.and (@BEq.beq @Int (@instBEqOfDecidableEq @Int @Int.instDecidableEq) (@Cst.s3 (@callM (@SC.s x_3) (@SC.c x_3))) (@Cst.s3 (@callM (@SC.s x_4) (@SC.c x_4)))) (@Bool.and (@BEq.beq @Int (@instBEqOfDecidableEq @Int @Int.instDecidableEq) (@Cst.s4 (@callM (@SC.s x_3) (@SC.c x_3))) (@Cst.s4 (@callM (@SC.s x_4) (@SC.c x_4)))) (@Bool.and (@BEq.beq @Int (@instBEqOfDecidableEq @Int @Int.instDecidableEq) (@Cst.s5 (@callM (@SC.s x_3) (@SC.c x_3))) (@Cst.s5 (@callM (@SC.s x_4) (@SC.c x_4)))) @Bool.true)))))) (True ∧
  ((@Bool.true = @Bool.true) ∧
  ((((@rowP (@SC.s x)) = (@rowP (@SC.s x))) ∧
  (@Bool.true = @Bool.true)) ∧
  ((((@rowQ (@SC.s x)) = (@rowQ (@SC.s x))) ∧
  (@Bool.true = @Bool.true)) ∧
  ((((@rowG (@SC.c x)) = (@rowG (@SC.c x))) ∧
  (@Bool.true = @Bool.true)) ∧
  True))))) (True ∧
  ((@Bool.true = @Bool.false) ∧
  ((((@rowP (@SC.s x)) = (@rowP (@SC.s x))) ∧
  (@Bool.true = @Bool.true)) ∧
  ((((@rowQ (@SC.s x)) = (@rowQ (@SC.s x))) ∧
  (@Bool.true = @Bool.true)) ∧
  ((((@rowG (@SC.c x)) = (@rowG (@SC.c x))) ∧
  (@Bool.true = @Bool.true)) ∧
  True))))))))))))))))))))))))))))))))))
theorem costCallsVC_ok (x : SC) : costCallsVC x = costCallsVC_wp x := by kernel_rfl
end Go.Proofs.Ytjndgegfonhhfaa
end
section
/- CostCalls: whatever the input, the statement that what a call costs on a store is the document's answers true. There are no conditions. -/
namespace Go.Proofs.Ytjndgegfonhhfaa
open Go SE
open Go.ChangeShapes Go.WideShapes Go.ChangeAt Go.RowKit
theorem tblQ_ok : TblOk Try.prog tblQ := .cons (ctrT_ok great_ok) (.cons (ctrT_ok weight_ok) (.cons (ctrT_ok call_ok) (.cons (ctrT_ok rcall_ok) (.cons awakeT_ok .nil))))
theorem costCalls_true (x : SC) (hw : x.s.wf) : costCallsVC x := by
  unfold costCallsVC
  simp only [hd_iff, and_true, true_and, Nat.zero_add, Nat.add_zero, unit_ex, unit_all, true_implies, implies_true, Int.toNat_natCast, eq_self, and_self]
  refine ⟨x.s, ⟨rfl, rfl⟩, ⟨⟨rfl, fun _ _ => rfl⟩, rfl, fun _ _ => rfl⟩, fun y hy => cP_intro (fun _ => trivial) (fun hb => ⟨x.c, ⟨rfl, rfl, rfl, rfl, rfl⟩, ⟨rfl, fun _ _ => rfl⟩, fun y1 hy1 => cP_intro (fun _ => trivial) (fun hb1 => ?_)⟩)⟩
  have hs := hy hb
  have hc := hy1 (by have := of_decide_eq_false hb1; omega)
  have hx : x.ok := ⟨hs, hw, hc⟩
  refine ⟨x, hx, ⟨⟨⟨rfl, rfl⟩, rfl, rfl⟩, rfl, rfl, rfl, rfl, rfl⟩, ⟨⟨rfl, fun _ _ => rfl⟩, ⟨rfl, fun _ _ => rfl⟩, rfl, fun _ _ => rfl⟩, x, hx, ⟨⟨⟨rfl, rfl⟩, rfl, rfl⟩, rfl, rfl, rfl, rfl, rfl⟩, ⟨⟨rfl, fun _ _ => rfl⟩, ⟨rfl, fun _ _ => rfl⟩, rfl, fun _ _ => rfl⟩, cP_intro (fun _ => trivial) (fun h => ?_)⟩
  simp at h
theorem costCalls_sp (x : SC) (hw : x.s.wf) : Sp Try.prog 3 [x.s.avZ 0 1, x.c.av 2] (hO 3 x.os) (fun v _ => v = .lit (.bool true)) := by
  have h := costCalls_true x hw
  rw [costCallsVC_ok] at h
  unfold costCallsVC_wp at h
  exact (sp_endk tt_ok mixed tblQ_ok (fun _ _ _ _ => []) 200 5 3 3 rfl rfl h).mono fun _ _ hh => hh.1
theorem own : ownKnob Try.prog.godebug = none := by kernel_rfl
theorem laidOut : laidOutB Try.prog = true := by kernel_rfl
theorem cells3 : Try.prog.cellsOf 3 = 1 := by kernel_rfl
theorem cells9 : Try.prog.cellsOf 9 = 1 := by kernel_rfl
theorem cells22 : Try.prog.cellsOf 22 = 1 := by kernel_rfl
theorem cells23 : Try.prog.cellsOf 23 = 1 := by kernel_rfl
theorem cells26 : Try.prog.cellsOf 26 = 1 := by kernel_rfl
theorem cells25 : Try.prog.cellsOf 25 = 2 := by kernel_rfl
theorem cells28 : Try.prog.cellsOf 28 = 5 := by kernel_rfl
theorem cellsP : Try.prog.cellsOf 73 = 2 := by kernel_rfl
theorem ct25 : Try.prog.cellTypes Try.prog.depth 25 = some [22, 23] := by kernel_rfl
theorem ct28 : Try.prog.cellTypes Try.prog.depth 28 = some [3, 9, 9, 9, 26] := by kernel_rfl
set_option maxRecDepth 20000 in
theorem trod_pair {H : Type} {enc : TypeId × Value → H} {w : World} {base : Nat} {spare : Nat → Bool} {held : Bool} {fuel : Nat} {cs : List Value} {x : DataW H × List MemPlace} (h : DataW.trod enc Try.prog w base spare held fuel 73 cs = some x) : ∃ l : BA × BA, cs = [.string l.1, .string l.2] := by
  obtain ⟨hl, hf⟩ := trod_struct Try.underlying73 h
  rw [cellsP] at hl
  match cs, hl with
  | [c0, c1], _ =>
    simp only [List.forall_mem_cons, cells9, List.drop_zero, List.take_succ_cons, List.take_zero, List.drop_succ_cons] at hf
    obtain ⟨⟨_, _, h0⟩, ⟨_, _, h1⟩, _⟩ := hf
    obtain ⟨s0, e0, _⟩ := DataW.trod_string Try.underlying9 h0
    obtain ⟨s1, e1, _⟩ := DataW.trod_string Try.underlying9 h1
    simp only [List.cons.injEq, and_true] at e0 e1
    subst e0 e1
    exact ⟨(s0, s1), rfl⟩
set_option maxRecDepth 20000 in
theorem trod_call {H : Type} {enc : TypeId × Value → H} {w : World} {base : Nat} {spare : Nat → Bool} {held : Bool} {fuel : Nat} {cs : List Value} {x : DataW H × List MemPlace} (h : DataW.trod enc Try.prog w base spare held fuel 28 cs = some x) :
    ∃ l : Mem, cs = l.cells ∧ ∃ fuel' y, DataW.trod enc Try.prog w base spare held fuel' 26 [.slice l.gp l.gn l.gc] = some y := by
  obtain ⟨hl, hf⟩ := trod_struct Try.underlying28 h
  rw [cells28] at hl
  match cs, hl with
  | [c0, c1, c2, c3, c4], _ =>
    simp only [List.forall_mem_cons, cells3, cells9, cells26, List.drop_zero, List.take_succ_cons, List.take_zero, List.drop_succ_cons] at hf
    obtain ⟨⟨_, _, h0⟩, ⟨_, _, h1⟩, ⟨_, _, h2⟩, ⟨_, _, h3⟩, ⟨_, _, h4⟩, _⟩ := hf
    obtain ⟨n0, e0, _⟩ := DataW.trod_int Try.underlying3 h0
    obtain ⟨s1, e1, _⟩ := DataW.trod_string Try.underlying9 h1
    obtain ⟨s2, e2, _⟩ := DataW.trod_string Try.underlying9 h2
    obtain ⟨s3, e3, _⟩ := DataW.trod_string Try.underlying9 h3
    simp only [List.cons.injEq, and_true] at e0 e1 e2 e3
    subst e0 e1 e2 e3
    rcases trod_slice Try.underlying26 h4 with e4 | ⟨a, len, cap, e4, _⟩
    · simp only [List.cons.injEq, and_true] at e4
      subst e4
      exact ⟨⟨n0, s1, s2, s3, none, 0, 0⟩, rfl, _, _, h4⟩
    · simp only [List.cons.injEq, and_true] at e4
      subst e4
      exact ⟨⟨n0, s1, s2, s3, some a, len, cap⟩, rfl, _, _, h4⟩
set_option maxRecDepth 20000 in
theorem open_shelf {H : Type} {enc : TypeId × Value → H} {W : World} {v : Value} {d : DataW H} {ps : List MemPlace} (hok : Value.okWide Try.prog W .any 0 25 v) (h : DataW.Trod enc Try.prog W 0 (fun _ => true) true 25 v d ps) :
    ∃ (s : Shf) (a b : SE.Loc), s.wf ∧ (∀ (ρ : Ren) (i j : Nat), ρ i = some a → ρ j = some b → VRel ρ (s.avZ i j) v) ∧ (∀ (ρ : Ren) (S : Nat → Prop), OHolds ρ W (fun b => W.heap.size ≤ b) a S (.ro (rowP s))) ∧ ∀ (ρ : Ren) (S : Nat → Prop), OHolds ρ W (fun b => W.heap.size ≤ b) b S (.ro (rowQ s)) := by
  obtain ⟨fuel, h⟩ := h
  unfold Value.okWide at hok
  simp only [Try.underlying25] at hok
  obtain ⟨cs, rfl, _, hr⟩ := hok
  obtain ⟨hl, hf⟩ := trod_struct Try.underlying25 h
  rw [cells25] at hl
  obtain ⟨L⟩ := cs
  change L.length = 2 at hl
  change ∀ f ∈ (_ : List Field), ∃ fuel' y, DataW.trod enc Try.prog W 0 (fun _ => true) true fuel' f.type ((L.drop f.offset).take (Try.prog.cellsOf f.type)) = some y at hf
  match L, hl with
  | [c0, c1], _ =>
    simp only [List.forall_mem_cons, cells22, cells23, List.drop_zero, List.take_succ_cons, List.take_zero, List.drop_succ_cons] at hf
    obtain ⟨⟨_, _, h0⟩, ⟨_, _, h1⟩, _⟩ := hf
    have k0 : Cell.okWide Try.prog W .any 0 22 c0 := row_cell hr ct25 (i := 0) rfl rfl
    have k1 : Cell.okWide Try.prog W .any 0 23 c1 := row_cell hr ct25 (i := 1) rfl rfl
    obtain ⟨z, c, n, a, hz, _, _, hv, ho⟩ := open_cellZ (T := fun b => W.heap.size ≤ b) (f := fun p : BA × BA => [.string p.1, .string p.2]) (m := 2) (ByteArray.empty, ByteArray.empty) (fun _ => True) (fun _ => rfl) (by omega) Try.underlying22 cellsP k0 h0 (fun b hb => by omega)
      (fun fuel cs y h => by obtain ⟨l, e⟩ := trod_pair h; exact ⟨l, trivial, e⟩)
    obtain ⟨z', c', n', a', hz', _, _, hv', ho'⟩ := open_cellZ (T := fun b => W.heap.size ≤ b) (f := fun p : BA => [.string p]) (m := 1) ByteArray.empty (fun _ => True) (fun _ => rfl) (by omega) Try.underlying23 cells9 k1 h1 (fun b hb => by omega)
      (fun fuel cs y h => by obtain ⟨s, e, _⟩ := DataW.trod_string Try.underlying9 h; exact ⟨s, trivial, e⟩)
    refine ⟨⟨fun k => (c k).1, fun k => (c k).2, n, c', n', z, z'⟩, a, a', ⟨hz, hz'⟩, fun ρ i j hi hj => ?_, fun ρ S => ho ρ S, fun ρ S => ho' ρ S⟩
    simp only [Shf.avZ, VRel]
    exact ⟨_, rfl, .cons (hv ρ i hi).1 (.cons (hv' ρ j hj).1 .nil)⟩
set_option maxRecDepth 20000 in
theorem open_call {H : Type} {enc : TypeId × Value → H} {W : World} {v : Value} {d : DataW H} {ps : List MemPlace} (hok : Value.okWide Try.prog W .any 0 28 v) (h : DataW.Trod enc Try.prog W 0 (fun _ => true) true 28 v d ps) :
    ∃ (s : Cll) (a : SE.Loc), (∀ (ρ : Ren) (i : Nat), ρ i = some a → VRel ρ (s.av i) v) ∧ ∀ (ρ : Ren) (S : Nat → Prop), OHolds ρ W (fun b => W.heap.size ≤ b) a S (.ro (rowG s)) := by
  obtain ⟨fuel, h⟩ := h
  unfold Value.okWide at hok
  simp only [Try.underlying28] at hok
  obtain ⟨cs, rfl, _, hr⟩ := hok
  obtain ⟨l, hl, fuel', y, h4⟩ := trod_call h
  obtain ⟨L⟩ := cs
  have hl : L = l.cells := hl
  subst hl
  have k4 : Cell.okWide Try.prog W .any 0 26 (.slice l.gp l.gn l.gc) := row_cell hr ct28 (i := 4) rfl rfl
  obtain ⟨z, c, n, a, _, _, _, hv, ho⟩ := open_cellZ (T := fun b => W.heap.size ≤ b) (f := Mem.cells) (m := 5) ⟨0, ByteArray.empty, ByteArray.empty, ByteArray.empty, none, 0, 0⟩ (fun _ => True) (fun _ => rfl) (by omega) Try.underlying26 cells28 k4 h4 (fun b hb => by omega)
    (fun fuel cs y h => by obtain ⟨l, e, _⟩ := trod_call h; exact ⟨l, trivial, e⟩)
  refine ⟨⟨l.kind, l.key, l.value, l.to, c, n⟩, a, fun ρ i hi => ?_, fun ρ S => ho ρ S⟩
  simp only [Cll.av, VRel]
  exact ⟨_, rfl, .cons rfl (.cons rfl (.cons rfl (.cons rfl (.cons (hv ρ i hi).2 .nil))))⟩
namespace CostCalls
theorem again : readAgain Try.prog Try.f3.params.toList = true := by kernel_rfl
set_option maxRecDepth 100000 in
theorem lifted (os : Os) (started : os.Started) (H : Type) (enc : TypeId × Value → H) :
    ReturnsInHanded {} Try.checked os 3 .any (Rows.costCallsSpec.pre6 enc Try.prog Try.f3 Rows.costCallsRow.domain false) (Rows.costCallsSpec.post enc Try.prog Try.f3 false true false false) := by
  refine returnsInHanded_of_change (C := Try.checked) own started (by kernel_rfl) Try.func3
    (ChangeSpec.witness6 (enc := enc) (C := Try.checked) false ⟨#[], #[.agg #[.slice none 0 0, .slice none 0 0], .agg #[.int .i64 0, .string ⟨#[]⟩, .string ⟨#[]⟩, .string ⟨#[]⟩, .slice none 0 0]], []⟩ 8 (by kernel_rfl) (by kernel_rfl) (by kernel_rfl) (by kernel_rfl)) ?_
  intro W base args ds gs before hval0 hW hcnd _
  have hval : ∀ (j : Nat) t v, Try.f3.params[j]? = some t → args[j]? = some v → Value.okWide Try.prog W .any base t v := hval0
  have hW' := hW
  obtain ⟨p, q, hA0, hV, rfl, hfz, hnd⟩ := hW
  have hA : DataW.TrodAll enc Try.prog W 0 (fun _ => true) true Try.f3.params.toList args.toList ds p := hA0
  rw [Try.params3] at hA hval
  obtain ⟨v0, vs0, d0, ds0, p0, q0, hargs, rfl, rfl, h0, r0⟩ := trodAll_cons hA
  obtain ⟨v1, vs1, d1, ds1, p1, q1, rfl, rfl, rfl, h1, r1⟩ := trodAll_cons r0
  obtain ⟨rfl, rfl, rfl⟩ := trodAll_nil r1
  obtain rfl : args = #[v0, v1] := by cases args; simp_all
  obtain ⟨rfl, rfl⟩ := trodVars_none hV
  obtain ⟨s, a, b, hw, hvs, hoa, hob⟩ := open_shelf (hval 0 25 v0 rfl rfl) h0
  obtain ⟨c, g, hvc, hog⟩ := open_call (hval 1 28 v1 rfl rfl) h1
  refine (Sp.callsOver 3 (SC.os ⟨s, c⟩) [a, b, g] (costCalls_sp ⟨s, c⟩ hw) rfl W ⟨hoa _ _, hob _ _, hog _ _, trivial⟩ (vs := #[v0, v1]) (.cons (hvs _ 0 1 rfl rfl) (.cons (hvc _ 2 rfl) .nil)) (fun _ _ h => h)).mono fun e W' ⟨he, hg⟩ => ?_
  subst he
  exact ⟨_, rfl, post_true laidOut again hW' hg rfl rfl Try.underlying4 rfl rfl rfl⟩

theorem over : Rows.costCallsRow.holds Try.pinned (OpenSpec.ofChange Rows.costCallsSpec) :=
  OpenClaim.holds_of_wide 3 Try.f3 rfl rfl rfl rfl rfl rfl rfl ⟨rfl, rfl, rfl, rfl, rfl⟩ rfl rfl rfl rfl rfl (by kernel_rfl) Try.func3 (by kernel_rfl)
    (of_decide_eq_true (by kernel_rfl)) (by unfold Func.isWrapper; rw [if_neg (of_decide_eq_false (by kernel_rfl))]; exact ⟨rfl, rfl⟩)
    (fun os started H enc _ => lifted os started H enc)
theorem proved : Rows.CostCallsSaid := over
end CostCalls
end Go.Proofs.Ytjndgegfonhhfaa
end
