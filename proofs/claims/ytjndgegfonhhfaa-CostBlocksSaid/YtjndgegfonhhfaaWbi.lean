import Derived.Test.YtjndgegfonhhfaaWba
import Derived.Test.YtjndgegfonhhfaaWbb
import Derived.Test.YtjndgegfonhhfaaWbc
import Derived.Test.YtjndgegfonhhfaaWbd
import Derived.Test.YtjndgegfonhhfaaWbe
import Derived.Test.YtjndgegfonhhfaaWbf
import Derived.Test.YtjndgegfonhhfaaWbg
import Derived.Test.YtjndgegfonhhfaaWbh
set_option linter.unusedVariables false
set_option linter.unusedSimpArgs false
section
/- CostBlocks: of every store and every call the statement that a call's Stores are its Notes and one more for each block that it writes (and that what turns nothing stores nothing, and no call flushes or fences) answers true. There are no conditions. -/
namespace Go.Proofs.Ytjndgegfonhhfaa
open Go SE
open Go.ChangeShapes Go.WideShapes Go.ChangeAt Go.RowKit
namespace CostBlocks
theorem again : readAgain Try.prog Try.f5.params.toList = true := by kernel_rfl
set_option maxRecDepth 100000 in
theorem lifted (os : Os) (started : os.Started) (H : Type) (enc : TypeId × Value → H) :
    ReturnsInHanded {} Try.checked os 5 .any (Rows.costBlocksSpec.pre6 enc Try.prog Try.f5 Rows.costBlocksRow.domain false) (Rows.costBlocksSpec.post enc Try.prog Try.f5 false true false false) := by
  refine returnsInHanded_of_change (C := Try.checked) own started (by kernel_rfl) Try.func5
    (ChangeSpec.witness6 (enc := enc) (C := Try.checked) false ⟨#[], #[.agg #[.slice none 0 0, .slice none 0 0], .agg #[.int .i64 0, .string ⟨#[]⟩, .string ⟨#[]⟩, .string ⟨#[]⟩, .slice none 0 0]], []⟩ 8 (by kernel_rfl) (by kernel_rfl) (by kernel_rfl) (by kernel_rfl)) ?_
  intro W base args ds gs before hval0 hW hcnd _
  have hval : ∀ (j : Nat) t v, Try.f5.params[j]? = some t → args[j]? = some v → Value.okWide Try.prog W .any base t v := hval0
  have hW' := hW
  obtain ⟨p, q, hA0, hV, rfl, hfz, hnd⟩ := hW
  have hA : DataW.TrodAll enc Try.prog W 0 (fun _ => true) true Try.f5.params.toList args.toList ds p := hA0
  rw [Try.params5] at hA hval
  obtain ⟨v0, vs0, d0, ds0, p0, q0, hargs, rfl, rfl, h0, r0⟩ := trodAll_cons hA
  obtain ⟨v1, vs1, d1, ds1, p1, q1, rfl, rfl, rfl, h1, r1⟩ := trodAll_cons r0
  obtain ⟨rfl, rfl, rfl⟩ := trodAll_nil r1
  obtain rfl : args = #[v0, v1] := by cases args; simp_all
  obtain ⟨rfl, rfl⟩ := trodVars_none hV
  obtain ⟨s, a, b, hw, hvs, hoa, hob⟩ := open_shelf (hval 0 25 v0 rfl rfl) h0
  obtain ⟨c, g, hvc, hog⟩ := open_call (hval 1 28 v1 rfl rfl) h1
  refine (Sp.callsOver 3 (SC.os ⟨s, c⟩) [a, b, g] (costBlocks_sp ⟨s, c⟩ hw) rfl W ⟨hoa _ _, hob _ _, hog _ _, trivial⟩ (vs := #[v0, v1]) (.cons (hvs _ 0 1 rfl rfl) (.cons (hvc _ 2 rfl) .nil)) (fun _ _ h => h)).mono fun e W' ⟨he, hg⟩ => ?_
  subst he
  exact ⟨_, rfl, post_true laidOut again hW' hg rfl rfl Try.underlying4 rfl rfl rfl⟩

theorem over : Rows.costBlocksRow.holds Try.pinned (OpenSpec.ofChange Rows.costBlocksSpec) :=
  OpenClaim.holds_of_wide 5 Try.f5 rfl rfl rfl rfl rfl rfl rfl ⟨rfl, rfl, rfl, rfl, rfl⟩ rfl rfl rfl rfl rfl (by kernel_rfl) Try.func5 (by kernel_rfl)
    (of_decide_eq_true (by kernel_rfl)) (by unfold Func.isWrapper; rw [if_neg (of_decide_eq_false (by kernel_rfl))]; exact ⟨rfl, rfl⟩)
    (fun os started H enc _ => lifted os started H enc)
theorem proved : Rows.CostBlocksSaid := over
end CostBlocks
end Go.Proofs.Ytjndgegfonhhfaa
end
