import Derived.Test.YtenfleoejgjklaaGreatRa
import Derived.Test.YtenfleoejgjklaaGreatRb
import Derived.Test.YtenfleoejgjklaaGreatRc
import Derived.Test.YtenfleoejgjklaaGreatRd
import Derived.Test.YtenfleoejgjklaaGreatRe
import Derived.Test.YtenfleoejgjklaaGreatRf
import Derived.Test.YtenfleoejgjklaaGreatRg
import Derived.Test.YtenfleoejgjklaaGreatRh
import Derived.Test.YtenfleoejgjklaaGreatRi
import Derived.Test.YtenfleoejgjklaaGreatRj
import Derived.Test.YtenfleoejgjklaaGreatRk
import Derived.ChangeMaps5
set_option linter.unusedVariables false
set_option linter.unusedSimpArgs false
set_option linter.unnecessarySimpa false
section
namespace Go.Proofs.YtenfleoejgjklaaGreat
open Go SE
open Go.ChangeShapes Go.WideShapes Go.ChangeAt Go.RowKit Go.ChangeMaps
theorem own : ownKnob Tryz.prog.godebug = none := by kernel_rfl
theorem laidOut : laidOutB Tryz.prog = true := by kernel_rfl
namespace TailEpochs
theorem again : qW Tryz.prog Tryz.f4.params.toList = true := by kernel_rfl
set_option maxRecDepth 100000 in
theorem lifted (os : Os) (started : os.Started) (H : Type) (enc : TypeId × Value->H) :
  ReturnsInHanded {} Tryz.checked os 4 .any (Rows.tailEpochsSpec.pre6 enc Tryz.prog Tryz.f4 Rows.tailEpochsRow.domain false) (Rows.tailEpochsSpec.post enc Tryz.prog Tryz.f4 false true false false) := by
 refine returnsInHanded_of_change (C := Tryz.checked) own started (by kernel_rfl) Tryz.func4
  (ChangeSpec.witness6 (enc := enc) (C := Tryz.checked) false ⟨#[],#[.int .i64 0,.string ⟨#[]⟩],[]⟩ 8 (by kernel_rfl) (by kernel_rfl) (by kernel_rfl) (by kernel_rfl)) ?_
 intro W base args ds gs before hval0 hW hcnd _
 have hval : ∀ (j : Nat) t v,Tryz.f4.params[j]? = some t->args[j]? = some v->Value.okWide Tryz.prog W .any base t v := hval0
 have hW' := hW
 obtain ⟨p,q,hA0,hV,rfl,hfz,hnd⟩ := hW
 have hA : DataW.TrodAll enc Tryz.prog W 0 (fun _ => true) true Tryz.f4.params.toList args.toList ds p := hA0
 rw [Tryz.params4] at hA hval
 obtain ⟨v0,vs0,d0,ds0,p0,q0,hargs,rfl,rfl,h0,r0⟩ := trodAll_cons hA
 obtain ⟨v1,vs1,d1,ds1,p1,q1,rfl,rfl,rfl,h1,r1⟩ := trodAll_cons r0
 obtain ⟨rfl,rfl,rfl⟩ := trodAll_nil r1
 obtain rfl : args = #[v0,v1] := by cases args; simp_all
 obtain ⟨rfl,rfl⟩ := trodVars_none hV
 obtain ⟨a0,rfl,rfl,rfl,w0⟩ := open_int Tryz.underlying3 (hval 0 3 v0 rfl rfl) h0
 obtain ⟨a1,rfl,rfl,rfl,w1⟩ := open_string Tryz.underlying9 (hval 1 9 v1 rfl rfl) h1
 refine (Sp.calls (akG ⟨a0,a1⟩) W (vs := #[.int .i64 a0,.string a1]) (.cons (by simp [bP,i64,boo]) (.cons (by simp [bP,i64,boo]) (.nil))) (fun _ _ h => h)).mono fun e W' ⟨he,hg⟩ => ?_
 subst he
 exact ⟨_,rfl,afC laidOut again hW' hg rfl rfl Tryz.underlying4 rfl rfl rfl⟩

theorem over : Rows.tailEpochsRow.holds Tryz.pinned (OpenSpec.ofChange Rows.tailEpochsSpec) :=
 OpenClaim.holds_of_wide 4 Tryz.f4 rfl rfl rfl rfl rfl rfl rfl ⟨rfl,rfl,rfl,rfl,rfl⟩ rfl rfl rfl rfl rfl (by kernel_rfl) Tryz.func4 Qw
  (aQ (by kernel_rfl)) (by unfold Func.isWrapper; rw [if_neg (aS (by kernel_rfl))]; exact ⟨rfl,rfl⟩)
  (fun os started H enc _ => lifted os started H enc)
theorem proved : Rows.TailEpochsSaid := over
end TailEpochs
end Go.Proofs.YtenfleoejgjklaaGreat
end
