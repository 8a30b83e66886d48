/- The row of FifoScript. -/
import Derived.Test.YtagaecgkciablaaFK
import Derived.Test.YtagaecgkciablaaFH
namespace Go.Proofs.Ytagaecgkciablaa.FifoScript
open Go.ChangeShapes Go.WideShapes Go.ChangeAt Go.RowKit
open SE

theorem own : ownKnob Try.prog.godebug = none := by kernel_rfl
theorem laidOut : laidOutB Try.prog = true := by kernel_rfl
theorem again : readAgain Try.prog Try.f4.params.toList = true := by kernel_rfl

set_option maxRecDepth 100000 in
theorem lifted (os : Os) (started : os.Started) (H : Type) (enc : TypeId × Value → H) :
    ReturnsInHanded {} Try.checked os 4 .any (Rows.fifoScriptSpec.pre6 enc Try.prog Try.f4 Rows.fifoScriptRow.domain false) (Rows.fifoScriptSpec.post enc Try.prog Try.f4 false true false false) := by
  refine returnsInHanded_of_change (C := Try.checked) own started (by kernel_rfl) Try.func4
    (ChangeSpec.witness6 (enc := enc) (C := Try.checked) false ⟨#[], #[.slice none 0 0, .slice none 0 0], []⟩ 8 (by kernel_rfl) (by kernel_rfl) (by kernel_rfl) (by kernel_rfl)) ?_
  intro W base args ds gs before hval0 hW hcnd _
  have hval : ∀ (j : Nat) t v, Try.f4.params[j]? = some t → args[j]? = some v → Value.okWide Try.prog W .any base t v := hval0
  have hW' := hW
  obtain ⟨p, q, hA0, hV, rfl, hfz, hnd⟩ := hW
  have hA : DataW.TrodAll enc Try.prog W 0 (fun _ => true) true Try.f4.params.toList args.toList ds p := hA0
  rw [Try.params4] at hA hval
  obtain ⟨v0, vs0, d0, ds0, p0, q0, hargs, rfl, rfl, h0, r0⟩ := trodAll_cons hA
  obtain ⟨v1, vs1, d1, ds1, p1, q1, rfl, rfl, rfl, h1, r1⟩ := trodAll_cons r0
  obtain ⟨rfl, rfl, rfl⟩ := trodAll_nil r1
  obtain rfl : args = #[v0, v1] := by cases args; simp_all
  obtain ⟨rfl, rfl⟩ := trodVars_none hV
  obtain ⟨ox, c1, a0, _, hv0, ho0⟩ := open_rows (T := fun b => W.heap.size ≤ b) (f := Lk.cells) (m := 5) (fun _ => True) cells_len (by omega) Try.underlying34 cells28 (hval 0 34 v0 rfl rfl) h0 (fun b hb => by omega)
    (fun fuel cs y h => by obtain ⟨l, hl⟩ := trod_lk h; exact ⟨l, trivial, hl⟩)
  obtain ⟨op, c2, a1, _, hv1, ho1⟩ := open_rows (T := fun b => W.heap.size ≤ b) (f := bcell) (m := 1) (fun _ => True) bcell_len (by omega) Try.underlying35 cells4 (hval 1 35 v1 rfl rfl) h1 (fun b hb => by omega)
    (fun fuel cs y h => by obtain ⟨b, hb, _⟩ := DataW.trod_bool Try.underlying4 h; exact ⟨b, trivial, hb⟩)
  refine (Sp.callsOver 2 [argO Lk.cells ox, argO bcell op] [a0, a1] (script_sp ox op c1 c2) rfl W ⟨ho0 _ _, ho1 _ _, trivial⟩ (vs := #[v0, v1]) (.cons (hv0 _ 0 rfl) (.cons (hv1 _ 1 rfl) .nil)) (fun _ _ h => h)).mono fun e W' ⟨he, hg⟩ => ?_
  subst he
  exact ⟨_, rfl, post_true laidOut again hW' hg rfl rfl Try.underlying4 rfl rfl rfl⟩

theorem over : Rows.fifoScriptRow.holds Try.pinned (OpenSpec.ofChange Rows.fifoScriptSpec) :=
  OpenClaim.holds_of_wide 4 Try.f4 rfl rfl rfl rfl rfl rfl rfl ⟨rfl, rfl, rfl, rfl, rfl⟩ rfl rfl rfl rfl rfl (by kernel_rfl) Try.func4 (by kernel_rfl)
    (of_decide_eq_true (by kernel_rfl)) (by unfold Func.isWrapper; rw [if_neg (of_decide_eq_false (by kernel_rfl))]; exact ⟨rfl, rfl⟩)
    (fun os started H enc _ => lifted os started H enc)

theorem proved : Rows.FifoScriptSaid := over
end Go.Proofs.Ytagaecgkciablaa.FifoScript
