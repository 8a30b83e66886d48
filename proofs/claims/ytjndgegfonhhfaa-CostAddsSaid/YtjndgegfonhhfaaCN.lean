/- CostAdds: whatever the input, the statement that costs come to the same in whatever order, and whichever are summed first, answers true. There are no conditions. -/
import Derived.Test.YtjndgegfonhhfaaCM
import Derived.Test.YtjndgegfonhhfaaCO
namespace Go.Proofs.Ytjndgegfonhhfaa
open Go SE
open Go.ChangeShapes Go.WideShapes Go.ChangeAt Go.RowKit
theorem own : ownKnob Try.prog.godebug = none := by kernel_rfl
theorem laidOut : laidOutB Try.prog = true := by kernel_rfl
namespace CostAdds
theorem again : readAgain Try.prog Try.f4.params.toList = true := by kernel_rfl
set_option maxRecDepth 100000 in
theorem lifted (os : Os) (started : os.Started) (H : Type) (enc : TypeId × Value → H) :
    ReturnsInHanded {} Try.checked os 4 .any (Rows.costAddsSpec.pre6 enc Try.prog Try.f4 Rows.costAddsRow.domain false) (Rows.costAddsSpec.post enc Try.prog Try.f4 false true false false) := by
  refine returnsInHanded_of_change (C := Try.checked) own started (by kernel_rfl) Try.func4
    (ChangeSpec.witness6 (enc := enc) (C := Try.checked) false ⟨#[], #[.slice none 0 0, .int .i64 0], []⟩ 8 (by kernel_rfl) (by kernel_rfl) (by kernel_rfl) (by kernel_rfl)) ?_
  intro W base args ds gs before hval0 hW hcnd _
  have hval : ∀ (j : Nat) t v, Try.f4.params[j]? = some t → args[j]? = some v → Value.okWide Try.prog W .any base t v := hval0
  have hW' := hW
  obtain ⟨p, q, hA0, hV, rfl, hfz, hnd⟩ := hW
  have hA : DataW.TrodAll enc Try.prog W 0 (fun _ => true) true Try.f4.params.toList args.toList ds p := hA0
  rw [Try.params4] at hA hval
  obtain ⟨v0, vs0, d0, ds0, p0, q0, hargs, rfl, rfl, h0, r0⟩ := trodAll_cons hA
  obtain ⟨v1, vs1, d1, ds1, p1, q1, rfl, rfl, rfl, h1, r1⟩ := trodAll_cons r0
  obtain ⟨rfl, rfl, rfl⟩ := trodAll_nil r1
  obtain rfl : args = #[v0, v1] := by cases args; simp_all
  obtain ⟨rfl, rfl⟩ := trodVars_none hV
  obtain ⟨c, n, a, _, _, hv0, ho0⟩ := open_row (T := fun b => W.heap.size ≤ b) (f := Cst.cells) (m := 6) Cst.zero (fun _ => True) (fun _ => rfl) (by omega) Try.underlying36 cells33 (hval 0 36 v0 rfl rfl) h0 (fun b hb => by omega)
    (fun fuel cs y h => by obtain ⟨l, hl⟩ := trod_cost h; exact ⟨l, trivial, hl⟩)
  obtain ⟨x, rfl⟩ := open_i64 (hval 1 3 v1 rfl rfl) h1
  refine (Sp.callsOver 1 [.ro (rowC c n)] [a] (costAdds_sp c n x) rfl W ⟨ho0 _ _, trivial⟩ (vs := #[v0, _]) (.cons (hv0 _ 0 rfl) (.cons ?_ .nil)) (fun _ _ h => h)).mono fun e W' ⟨he, hg⟩ => ?_
  · simp [VRel, i64]
  subst he
  exact ⟨_, rfl, post_true laidOut again hW' hg rfl rfl Try.underlying4 rfl rfl rfl⟩

theorem over : Rows.costAddsRow.holds Try.pinned (OpenSpec.ofChange Rows.costAddsSpec) :=
  OpenClaim.holds_of_wide 4 Try.f4 rfl rfl rfl rfl rfl rfl rfl ⟨rfl, rfl, rfl, rfl, rfl⟩ rfl rfl rfl rfl rfl (by kernel_rfl) Try.func4 (by kernel_rfl)
    (of_decide_eq_true (by kernel_rfl)) (by unfold Func.isWrapper; rw [if_neg (of_decide_eq_false (by kernel_rfl))]; exact ⟨rfl, rfl⟩)
    (fun os started H enc _ => lifted os started H enc)
theorem proved : Rows.CostAddsSaid := over
end CostAdds
end Go.Proofs.Ytjndgegfonhhfaa
