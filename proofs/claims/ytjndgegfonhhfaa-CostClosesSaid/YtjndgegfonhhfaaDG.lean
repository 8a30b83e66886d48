/- CostCloses: whatever the input, the statement that a closing and a revival cost what the document says answers true. There are no conditions. -/
import Derived.Test.YtjndgegfonhhfaaDD
import Derived.Test.YtjndgegfonhhfaaCO
namespace Go.Proofs.Ytjndgegfonhhfaa
open Go SE
open Go.ChangeShapes Go.WideShapes Go.ChangeAt Go.RowKit
theorem costCloses_true (x : Nts) (a b : Int) : costClosesVC x a b := by
  unfold costClosesVC
  simp only [and_true, true_and]
  refine cP_intro (fun _ => trivial) (fun hb => ?_)
  have hb := of_decide_eq_false hb
  have hn : x.n < 1099511627776 := by omega
  refine ⟨x, hn, rfl, ⟨rfl, fun _ _ => rfl⟩, fun _ _ => ⟨⟨fun q => bif Nat.blt q x.n then x.g q else -777, x.n, x.n + 3⟩, ⟨by simp, hn⟩, rfl, ⟨rfl, fun _ _ => rfl⟩, fun _ _ => ⟨⟨x.g, x.n, x.n⟩, ⟨Nat.le_refl _, hn⟩, rfl, ⟨rfl, fun _ _ => rfl⟩, fun _ _ => ?_⟩⟩⟩
  have e : cntTo (fun q => bif Nat.blt q x.n then x.g q else -777) x.n 258 = cntTo x.g x.n 258 := cntTo_congr (fun j hj => by simp [nblt_iff.2 hj]) 258
  simp only [e]
  refine cP_intro (fun _ => ⟨(a, b), ⟨rfl, rfl⟩, fun _ _ => ⟨(a, b), ⟨rfl, rfl⟩, fun _ _ => cP_intro (fun _ => ⟨x, hn, ⟨⟨rfl, rfl⟩, rfl⟩, ⟨⟨rfl, fun _ _ => rfl⟩, rfl, fun _ _ => rfl⟩, fun _ _ => trivial⟩) (fun h => ?_)⟩⟩) (fun h => ?_)
  · simp at h
  · simp at h
theorem costCloses_sp (x : Nts) (a b : Int) : Sp Try.prog 7 [.slR 0 0 1 x.n, i64 a, i64 b] (hO 1 [.ro (rowI x.g x.n)]) (fun v _ => v = .lit (.bool true)) := by
  have h := costCloses_true x a b
  rw [costClosesVC_ok] at h
  unfold costClosesVC_wp at h
  exact (sp_endk tt_ok mixed tblD_ok (fun _ _ _ _ => []) 200 5 1 1 rfl rfl h).mono fun _ _ hh => hh.1
theorem own : ownKnob Try.prog.godebug = none := by kernel_rfl
theorem laidOut : laidOutB Try.prog = true := by kernel_rfl
namespace CostCloses
theorem again : readAgain Try.prog Try.f7.params.toList = true := by kernel_rfl
set_option maxRecDepth 100000 in
theorem lifted (os : Os) (started : os.Started) (H : Type) (enc : TypeId × Value → H) :
    ReturnsInHanded {} Try.checked os 7 .any (Rows.costClosesSpec.pre6 enc Try.prog Try.f7 Rows.costClosesRow.domain false) (Rows.costClosesSpec.post enc Try.prog Try.f7 false true false false) := by
  refine returnsInHanded_of_change (C := Try.checked) own started (by kernel_rfl) Try.func7
    (ChangeSpec.witness6 (enc := enc) (C := Try.checked) false ⟨#[], #[.slice none 0 0, .int .i64 0, .int .i64 0], []⟩ 8 (by kernel_rfl) (by kernel_rfl) (by kernel_rfl) (by kernel_rfl)) ?_
  intro W base args ds gs before hval0 hW hcnd _
  have hval : ∀ (j : Nat) t v, Try.f7.params[j]? = some t → args[j]? = some v → Value.okWide Try.prog W .any base t v := hval0
  have hW' := hW
  obtain ⟨p, q, hA0, hV, rfl, hfz, hnd⟩ := hW
  have hA : DataW.TrodAll enc Try.prog W 0 (fun _ => true) true Try.f7.params.toList args.toList ds p := hA0
  rw [Try.params7] at hA hval
  obtain ⟨v0, vs0, d0, ds0, p0, q0, hargs, rfl, rfl, h0, r0⟩ := trodAll_cons hA
  obtain ⟨v1, vs1, d1, ds1, p1, q1, rfl, rfl, rfl, h1, r1⟩ := trodAll_cons r0
  obtain ⟨v2, vs2, d2, ds2, p2, q2, rfl, rfl, rfl, h2, r2⟩ := trodAll_cons r1
  obtain ⟨rfl, rfl, rfl⟩ := trodAll_nil r2
  obtain rfl : args = #[v0, v1, v2] := by cases args; simp_all
  obtain ⟨rfl, rfl⟩ := trodVars_none hV
  obtain ⟨g, n, a, _, _, hv0, ho0⟩ := open_row (T := fun b => W.heap.size ≤ b) (f := fun z : Int => [.int .i64 z]) (m := 1) 0 (fun _ => True) (fun _ => rfl) (by omega) Try.underlying53 cells3 (hval 0 53 v0 rfl rfl) h0 (fun b hb => by omega)
    (fun fuel cs y h => by
      obtain ⟨z, e, _⟩ := DataW.trod_int Try.underlying3 h
      exact ⟨z, trivial, e⟩)
  obtain ⟨x, rfl⟩ := open_i64 (hval 1 3 v1 rfl rfl) h1
  obtain ⟨y, rfl⟩ := open_i64 (hval 2 3 v2 rfl rfl) h2
  refine (Sp.callsOver 1 [.ro (rowI g n)] [a] (costCloses_sp ⟨g, n, n⟩ x y) rfl W ⟨ho0 _ _, trivial⟩ (vs := #[v0, _, _]) (.cons (hv0 _ 0 rfl) (.cons ?_ (.cons ?_ .nil))) (fun _ _ h => h)).mono fun e W' ⟨he, hg⟩ => ?_
  · simp [VRel, i64]
  · simp [VRel, i64]
  subst he
  exact ⟨_, rfl, post_true laidOut again hW' hg rfl rfl Try.underlying4 rfl rfl rfl⟩

theorem over : Rows.costClosesRow.holds Try.pinned (OpenSpec.ofChange Rows.costClosesSpec) :=
  OpenClaim.holds_of_wide 7 Try.f7 rfl rfl rfl rfl rfl rfl rfl ⟨rfl, rfl, rfl, rfl, rfl⟩ rfl rfl rfl rfl rfl (by kernel_rfl) Try.func7 (by kernel_rfl)
    (of_decide_eq_true (by kernel_rfl)) (by unfold Func.isWrapper; rw [if_neg (of_decide_eq_false (by kernel_rfl))]; exact ⟨rfl, rfl⟩)
    (fun os started H enc _ => lifted os started H enc)
theorem proved : Rows.CostClosesSaid := over
end CostCloses
end Go.Proofs.Ytjndgegfonhhfaa
