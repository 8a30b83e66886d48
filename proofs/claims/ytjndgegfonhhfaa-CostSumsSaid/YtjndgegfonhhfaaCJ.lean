/- CostSums: whatever the input, the statement on what lies between two counts and on what costs come to together answers true. There are no conditions. -/
import Derived.Test.YtjndgegfonhhfaaCI
import Derived.Test.YtjndgegfonhhfaaV13
import Derived.Test.YtjndgegfonhhfaaE18
namespace Go.Proofs.Ytjndgegfonhhfaa
open Go SE
open Go.ChangeShapes Go.WideShapes Go.ChangeAt Go.RowKit
theorem cells33 : Try.prog.cellsOf 33 = 6 := by kernel_rfl
theorem cells49 : Try.prog.cellsOf 49 = 5 := by kernel_rfl
theorem cells3 : Try.prog.cellsOf 3 = 1 := by kernel_rfl
theorem lit_i64 {n : Int} (h : (Lit.int .i64 n).wf = true) : I64 n := by
  simp [Lit.wf] at h
  have e : IntKind.i64.min = -9223372036854775808 := rfl
  rw [e] at h
  exact h
set_option maxRecDepth 20000 in
theorem trod_cost {H : Type} {enc : TypeId × Value → H} {w : World} {base : Nat} {spare : Nat → Bool} {held : Bool} {fuel : Nat} {cs : List Value} {x : DataW H × List MemPlace} (h : DataW.trod enc Try.prog w base spare held fuel 33 cs = some x) : ∃ l : Cst, cs = l.cells := by
  obtain ⟨hl, hf⟩ := trod_struct Try.underlying33 h
  rw [cells33] at hl
  match cs, hl with
  | [c0, c1, c2, c3, c4, c5], _ =>
    simp only [List.forall_mem_cons, cells3, List.drop_zero, List.take_succ_cons, List.take_zero, List.drop_succ_cons] at hf
    obtain ⟨⟨_, _, h0⟩, ⟨_, _, h1⟩, ⟨_, _, h2⟩, ⟨_, _, h3⟩, ⟨_, _, h4⟩, ⟨_, _, h5⟩, _⟩ := hf
    obtain ⟨n0, e0, _⟩ := DataW.trod_int Try.underlying3 h0
    obtain ⟨n1, e1, _⟩ := DataW.trod_int Try.underlying3 h1
    obtain ⟨n2, e2, _⟩ := DataW.trod_int Try.underlying3 h2
    obtain ⟨n3, e3, _⟩ := DataW.trod_int Try.underlying3 h3
    obtain ⟨n4, e4, _⟩ := DataW.trod_int Try.underlying3 h4
    obtain ⟨n5, e5, _⟩ := DataW.trod_int Try.underlying3 h5
    simp only [List.cons.injEq, and_true] at e0 e1 e2 e3 e4 e5
    subst e0 e1 e2 e3 e4 e5
    exact ⟨⟨n0, n1, n2, n3, n4, n5⟩, rfl⟩
set_option maxRecDepth 20000 in
theorem open_counts {H : Type} {enc : TypeId × Value → H} {W : World} {v : Value} {d : DataW H} {ps : List MemPlace} (hok : Value.okWide Try.prog W .any 0 49 v) (h : DataW.Trod enc Try.prog W 0 (fun _ => true) true 49 v d ps) :
    ∃ a0 a1 a2 a3 a4 : Int, I64 a0 ∧ I64 a1 ∧ I64 a2 ∧ v = .agg #[.int .i64 a0, .int .i64 a1, .int .i64 a2, .int .i64 a3, .int .i64 a4] := by
  obtain ⟨fuel, h⟩ := h
  unfold Value.okWide at hok
  simp only [Try.underlying49] at hok
  obtain ⟨cs, rfl, _⟩ := hok
  obtain ⟨hl, hf⟩ := trod_struct Try.underlying49 h
  rw [cells49] at hl
  obtain ⟨L⟩ := cs
  change L.length = 5 at hl
  change ∀ f ∈ (_ : List Field), ∃ fuel' y, DataW.trod enc Try.prog W 0 (fun _ => true) true fuel' f.type ((L.drop f.offset).take (Try.prog.cellsOf f.type)) = some y at hf
  match L, hl with
  | [c0, c1, c2, c3, c4], _ =>
    simp only [List.forall_mem_cons, cells3, List.drop_zero, List.take_succ_cons, List.take_zero, List.drop_succ_cons] at hf
    obtain ⟨⟨_, _, h0⟩, ⟨_, _, h1⟩, ⟨_, _, h2⟩, ⟨_, _, h3⟩, ⟨_, _, h4⟩, _⟩ := hf
    obtain ⟨n0, e0, _, w0⟩ := DataW.trod_int Try.underlying3 h0
    obtain ⟨n1, e1, _, w1⟩ := DataW.trod_int Try.underlying3 h1
    obtain ⟨n2, e2, _, w2⟩ := DataW.trod_int Try.underlying3 h2
    obtain ⟨n3, e3, _⟩ := DataW.trod_int Try.underlying3 h3
    obtain ⟨n4, e4, _⟩ := DataW.trod_int Try.underlying3 h4
    simp only [List.cons.injEq, and_true] at e0 e1 e2 e3 e4
    subst e0 e1 e2 e3 e4
    exact ⟨n0, n1, n2, n3, n4, lit_i64 w0, lit_i64 w1, lit_i64 w2, rfl⟩
theorem costSums_true (a0 a1 a2 a3 a4 b0 b1 b2 b3 b4 : Int) (c : Nat → Cst) (n : Nat) (ha0 : I64 a0) (ha1 : I64 a1) (ha2 : I64 a2) (hb0 : I64 b0) (hb1 : I64 b1) (hb2 : I64 b2) : costSumsVC a0 a1 a2 a3 a4 b0 b1 b2 b3 b4 c n := by
  unfold costSumsVC
  have hd : ∀ {a b : Int}, I64 a → I64 b → I64 (imax b 0 - imax a 0) ∧ I64 (imax 0 b - imax 0 a) := by
    unfold I64 imax; grind
  have he : ∀ {a b : Int}, imax (imax b 0 - imax a 0) 0 = imax 0 (imax 0 b - imax 0 a) := by
    unfold imax; grind
  refine cP_intro (fun hb => ?_) (fun hb => ?_)
  · simp
  · have hn : ¬ ((n : Int) > 60) := of_decide_eq_false hb
    have hn : n < 4611686018427387904 := by omega
    simp only [hd ha0 hb0, hd ha1 hb1, hd ha2 hb2, he, and_true, true_and]
    refine cP_intro (fun _ => ?_) (fun h => ?_)
    · refine ⟨by omega, hn, c, ?_⟩
      simp only [Nat.zero_add, implies_true, true_and, Nat.le_refl]
      refine ⟨hn, c, ?_⟩
      simp only [implies_true, true_and]
      refine cP_intro (fun _ => ?_) (fun h => ?_)
      · simp
      · simp at h
    · simp at h
theorem costSums_sp (a0 a1 a2 a3 a4 b0 b1 b2 b3 b4 : Int) (c : Nat → Cst) (n : Nat) (ha0 : I64 a0) (ha1 : I64 a1) (ha2 : I64 a2) (hb0 : I64 b0) (hb1 : I64 b1) (hb2 : I64 b2) :
    Sp Try.prog 6 [.agg [i64 a0, i64 a1, i64 a2, i64 a3, i64 a4], .agg [i64 b0, i64 b1, i64 b2, i64 b3, i64 b4], .slR 0 0 6 n] (hO 1 [.ro (rowC c n)]) (fun v _ => v = .lit (.bool true)) := by
  have h := costSums_true a0 a1 a2 a3 a4 b0 b1 b2 b3 b4 c n ha0 ha1 ha2 hb0 hb1 hb2
  rw [costSumsVC_ok] at h
  unfold costSumsVC_wp at h
  exact (sp_endk tt_ok mixed tbl_ok (fun _ _ => []) 200 5 1 1 rfl rfl h).mono fun _ _ hh => hh.1
theorem own : ownKnob Try.prog.godebug = none := by kernel_rfl
theorem laidOut : laidOutB Try.prog = true := by kernel_rfl

namespace CostSums
theorem again : readAgain Try.prog Try.f6.params.toList = true := by kernel_rfl
set_option maxRecDepth 100000 in
theorem lifted (os : Os) (started : os.Started) (H : Type) (enc : TypeId × Value → H) :
    ReturnsInHanded {} Try.checked os 6 .any (Rows.costSumsSpec.pre6 enc Try.prog Try.f6 Rows.costSumsRow.domain false) (Rows.costSumsSpec.post enc Try.prog Try.f6 false true false false) := by
  refine returnsInHanded_of_change (C := Try.checked) own started (by kernel_rfl) Try.func6
    (ChangeSpec.witness6 (enc := enc) (C := Try.checked) false ⟨#[], #[.agg #[.int .i64 0, .int .i64 0, .int .i64 0, .int .i64 0, .int .i64 0], .agg #[.int .i64 0, .int .i64 0, .int .i64 0, .int .i64 0, .int .i64 0], .slice none 0 0], []⟩ 8 (by kernel_rfl) (by kernel_rfl) (by kernel_rfl) (by kernel_rfl)) ?_
  intro W base args ds gs before hval0 hW hcnd _
  have hval : ∀ (j : Nat) t v, Try.f6.params[j]? = some t → args[j]? = some v → Value.okWide Try.prog W .any base t v := hval0
  have hW' := hW
  obtain ⟨p, q, hA0, hV, rfl, hfz, hnd⟩ := hW
  have hA : DataW.TrodAll enc Try.prog W 0 (fun _ => true) true Try.f6.params.toList args.toList ds p := hA0
  rw [Try.params6] at hA hval
  obtain ⟨v0, vs0, d0, ds0, p0, q0, hargs, rfl, rfl, h0, r0⟩ := trodAll_cons hA
  obtain ⟨v1, vs1, d1, ds1, p1, q1, rfl, rfl, rfl, h1, r1⟩ := trodAll_cons r0
  obtain ⟨v2, vs2, d2, ds2, p2, q2, rfl, rfl, rfl, h2, r2⟩ := trodAll_cons r1
  obtain ⟨rfl, rfl, rfl⟩ := trodAll_nil r2
  obtain rfl : args = #[v0, v1, v2] := by cases args; simp_all
  obtain ⟨rfl, rfl⟩ := trodVars_none hV
  obtain ⟨a0, a1, a2, a3, a4, ha0, ha1, ha2, rfl⟩ := open_counts (hval 0 49 v0 rfl rfl) h0
  obtain ⟨b0, b1, b2, b3, b4, hb0, hb1, hb2, rfl⟩ := open_counts (hval 1 49 v1 rfl rfl) h1
  obtain ⟨c, n, a, _, _, hv2, ho2⟩ := open_row (T := fun b => W.heap.size ≤ b) (f := Cst.cells) (m := 6) Cst.zero (fun _ => True) (fun _ => rfl) (by omega) Try.underlying36 cells33 (hval 2 36 v2 rfl rfl) h2 (fun b hb => by omega)
    (fun fuel cs y h => by obtain ⟨l, hl⟩ := trod_cost h; exact ⟨l, trivial, hl⟩)
  refine (Sp.callsOver 1 [.ro (rowC c n)] [a] (costSums_sp a0 a1 a2 a3 a4 b0 b1 b2 b3 b4 c n ha0 ha1 ha2 hb0 hb1 hb2) rfl W ⟨ho2 _ _, trivial⟩ (vs := #[_, _, v2]) (.cons ?_ (.cons ?_ (.cons (hv2 _ 0 rfl) .nil))) (fun _ _ h => h)).mono fun e W' ⟨he, hg⟩ => ?_
  · simp [VRel, LRel, i64]
  · simp [VRel, LRel, i64]
  subst he
  exact ⟨_, rfl, post_true laidOut again hW' hg rfl rfl Try.underlying4 rfl rfl rfl⟩

theorem over : Rows.costSumsRow.holds Try.pinned (OpenSpec.ofChange Rows.costSumsSpec) :=
  OpenClaim.holds_of_wide 6 Try.f6 rfl rfl rfl rfl rfl rfl rfl ⟨rfl, rfl, rfl, rfl, rfl⟩ rfl rfl rfl rfl rfl (by kernel_rfl) Try.func6 (by kernel_rfl)
    (of_decide_eq_true (by kernel_rfl)) (by unfold Func.isWrapper; rw [if_neg (of_decide_eq_false (by kernel_rfl))]; exact ⟨rfl, rfl⟩)
    (fun os started H enc _ => lifted os started H enc)
theorem proved : Rows.CostSumsSaid := over
end CostSums
end Go.Proofs.Ytjndgegfonhhfaa
