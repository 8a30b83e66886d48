import Derived.Test.YtpnhfbegboogbaaGreatQa
import Derived.Test.YtpnhfbegboogbaaGreatQb
import Derived.Test.YtpnhfbegboogbaaGreatQc
import Derived.Test.YtpnhfbegboogbaaGreatQd
import Derived.Test.YtpnhfbegboogbaaGreatQe
import Derived.Test.YtpnhfbegboogbaaGreatQf
import Derived.Test.YtpnhfbegboogbaaGreatQg
import Derived.Test.YtpnhfbegboogbaaGreatQh
import Derived.Test.YtpnhfbegboogbaaGreatQi
import Derived.Test.YtpnhfbegboogbaaGreatQj
import Derived.Test.YtpnhfbegboogbaaGreatQk
set_option linter.unusedVariables false
set_option linter.unusedSimpArgs false
set_option linter.unnecessarySimpa false
section
namespace Go.Proofs.YtpnhfbegboogbaaGreat
open Go
theorem tturns_facts : joinedFacts Tryz.prog 5 Tryz.f5 Rows.tailTurnsSpec Rows.tailTurnsRow = true := by
 unfold joinedFacts
 rw [tturns_inPlace,tturns_unfollowed,tturns_recurses,tturns_named]
 kernel_rfl
end Go.Proofs.YtpnhfbegboogbaaGreat
end
section
namespace Go.Proofs.YtpnhfbegboogbaaGreat
open Go SE
open Go.ChangeShapes Go.WideShapes Go.ChangeAt Go.RowKit
theorem own : ownKnob Tryz.prog.godebug = none := by kernel_rfl
theorem laidOut : laidOutB Tryz.prog = true := by kernel_rfl
namespace TailTurns
theorem cells2_TailTurns : Tryz.prog.cellsOf 4 = 1 := by kernel_rfl
theorem cells1_TailTurns : Tryz.prog.cellsOf 9 = 1 := by kernel_rfl
theorem again : readAgain Tryz.prog Tryz.f5.params.toList = true := by kernel_rfl
set_option maxRecDepth 100000 in
theorem lifted (os : Os) (started : os.Started) (H : Type) (enc : TypeId × Value->H) :
  ReturnsInHanded {} Tryz.checked os 5 .any (Rows.tailTurnsSpec.pre6 enc Tryz.prog Tryz.f5 Rows.tailTurnsRow.domain false) (Rows.tailTurnsSpec.post enc Tryz.prog Tryz.f5 false true false false) := by
 refine returnsInHanded_of_change (C := Tryz.checked) own started (by kernel_rfl) Tryz.func5
  (ChangeSpec.witness6 (enc := enc) (C := Tryz.checked) false ⟨#[],#[.int .i64 0,.slice none 0 0,.slice none 0 0],[]⟩ 8 (by kernel_rfl) (by kernel_rfl) (by kernel_rfl) (by kernel_rfl)) ?_
 intro W base args ds gs before hval0 hW hcnd _
 have hval : ∀ (j : Nat) t v,Tryz.f5.params[j]? = some t->args[j]? = some v->Value.okWide Tryz.prog W .any base t v := hval0
 have hW' := hW
 obtain ⟨p,q,hA0,hV,rfl,hfz,hnd⟩ := hW
 have hA : DataW.TrodAll enc Tryz.prog W 0 (fun _ => true) true Tryz.f5.params.toList args.toList ds p := hA0
 rw [Tryz.params5] at hA hval
 obtain ⟨v0,vs0,d0,ds0,p0,q0,hargs,rfl,rfl,h0,r0⟩ := trodAll_cons hA
 obtain ⟨v1,vs1,d1,ds1,p1,q1,rfl,rfl,rfl,h1,r1⟩ := trodAll_cons r0
 obtain ⟨v2,vs2,d2,ds2,p2,q2,rfl,rfl,rfl,h2,r2⟩ := trodAll_cons r1
 obtain ⟨rfl,rfl,rfl⟩ := trodAll_nil r2
 obtain rfl : args = #[v0,v1,v2] := by cases args; simp_all
 obtain ⟨rfl,rfl⟩ := trodVars_none hV
 obtain ⟨a0,rfl,rfl,rfl,w0⟩ := open_int Tryz.underlying3 (hval 0 3 v0 rfl rfl) h0
 obtain ⟨g1,n1,A1,_,_,hv1,ho1⟩ := open_row (T := fun b => W.heap.size<=b) (f := fun z : ByteArray => [Value.string z]) (m := 1) ⟨#[]⟩ (fun _ => True) (fun _ => rfl) (by omega) Tryz.underlying59 cells1_TailTurns (hval 1 59 v1 rfl rfl) h1 (fun b hb => by omega)
  (fun fuel cs y h => by
   obtain ⟨z,e,_⟩ := DataW.trod_string Tryz.underlying9 h
   exact ⟨z,trivial,e⟩)
 obtain ⟨g2,n2,A2,_,_,hv2,ho2⟩ := open_row (T := fun b => W.heap.size<=b) (f := fun z : Bool => [Value.bool z]) (m := 1) false (fun _ => True) (fun _ => rfl) (by omega) Tryz.underlying30 cells2_TailTurns (hval 2 30 v2 rfl rfl) h2 (fun b hb => by omega)
  (fun fuel cs y h => by
   obtain ⟨z,e,_⟩ := DataW.trod_bool Tryz.underlying4 h
   exact ⟨z,trivial,e⟩)
 refine (Sp.callsOver 2 _ [A1,A2] (turns_sp ⟨a0,n1,g1,n2,g2⟩) rfl W ⟨ho1 _ _,ho2 _ _,trivial⟩ (vs := #[.int .i64 a0,v1,v2]) (.cons (by simp [VRel,i64,boo]) (.cons (hv1 _ 0 rfl) (.cons (hv2 _ 1 rfl) (.nil)))) (fun _ _ h => h)).mono fun e W' ⟨he,hg⟩ => ?_
 subst he
 exact ⟨_,rfl,post_true laidOut again hW' hg rfl rfl Tryz.underlying4 rfl rfl rfl⟩

theorem over : Rows.tailTurnsRow.holds Tryz.pinned (OpenSpec.ofChange Rows.tailTurnsSpec) :=
 OpenClaim.holds_of_wide 5 Tryz.f5 rfl rfl rfl rfl rfl rfl rfl ⟨rfl,rfl,rfl,rfl,rfl⟩ rfl rfl rfl rfl rfl (by kernel_rfl) Tryz.func5 tturns_facts
  (of_decide_eq_true (by kernel_rfl)) (by unfold Func.isWrapper; rw [if_neg (of_decide_eq_false (by kernel_rfl))]; exact ⟨rfl,rfl⟩)
  (fun os started H enc _ => lifted os started H enc)
theorem proved : Rows.TailTurnsSaid := over
end TailTurns
end Go.Proofs.YtpnhfbegboogbaaGreat
end
