import Derived.Test.YtenfleoejgjklaaGreatOa
import Derived.Test.YtenfleoejgjklaaGreatOb
import Derived.Test.YtenfleoejgjklaaGreatOc
import Derived.Test.YtenfleoejgjklaaGreatOd
import Derived.Test.YtenfleoejgjklaaGreatOe
import Derived.Test.YtenfleoejgjklaaGreatOf
import Derived.Test.YtenfleoejgjklaaGreatOg
import Derived.Test.YtenfleoejgjklaaGreatOh
import Derived.Test.YtenfleoejgjklaaGreatOi
import Derived.Test.YtenfleoejgjklaaGreatOj
import Derived.Test.YtenfleoejgjklaaGreatOk
import Derived.ChangeMaps5
set_option linter.unusedVariables false
set_option linter.unusedSimpArgs false
set_option linter.unnecessarySimpa false
section
namespace Go.Proofs.YtenfleoejgjklaaGreat
open Go SE
open Go.ChangeShapes Go.WideShapes Go.ChangeAt Go.RowKit Go.ChangeMaps
theorem own:ownKnob Tryz.prog.godebug=none:=by kernel_rfl
theorem laidOut:laidOutB Tryz.prog=true:=by kernel_rfl
namespace PointEpochs
theorem again:ru Tryz.prog Tryz.f9.params.toList=true:=by kernel_rfl
set_option maxRecDepth 100000 in
theorem lifted(os:Os)(started:os.Started)(H:Type)(enc:TypeId×Value->H):
  ReturnsInHanded {} Tryz.checked os 9 .any (Rows.pointEpochsSpec.pre6 enc Tryz.prog Tryz.f9 Rows.pointEpochsRow.domain false) (Rows.pointEpochsSpec.post enc Tryz.prog Tryz.f9 false true false false):=by
 refine returnsInHanded_of_change (C:=Tryz.checked) own started (by kernel_rfl) Tryz.func9
  (ChangeSpec.witness6 (enc:=enc) (C:=Tryz.checked) false ⟨#[],#[.int .i64 0,.string ⟨#[]⟩,.string ⟨#[]⟩],[]⟩ 8 (by kernel_rfl) (by kernel_rfl) (by kernel_rfl) (by kernel_rfl)) ?_
 intro W base args ds gs before hval0 hW hcnd _;have hval: ∀(j:Nat) t v,Tryz.f9.params[j]? =some t->args[j]? =some v->Value.okWide Tryz.prog W .any base t v:=hval0;have hW':=hW;obtain⟨p,q,hA0,hV,rfl,hfz,hnd⟩:=hW;have hA:DataW.TrodAll enc Tryz.prog W 0 (λ_=>true) true Tryz.f9.params.toList args.toList ds p:=hA0;rw[Tryz.params9]at hA hval;obtain⟨v0,vs0,d0,ds0,p0,q0,hargs,rfl,rfl,h0,r0⟩:=trodAll_cons hA;obtain⟨v1,vs1,d1,ds1,p1,q1,rfl,rfl,rfl,h1,r1⟩:=trodAll_cons r0;obtain⟨v2,vs2,d2,ds2,p2,q2,rfl,rfl,rfl,h2,r2⟩:=trodAll_cons r1;obtain⟨rfl,rfl,rfl⟩:=trodAll_nil r2;obtain rfl:args= #[v0,v1,v2]:=by cases args;simp_all
 obtain⟨rfl,rfl⟩:=trodVars_none hV;obtain⟨a0,rfl,rfl,rfl,w0⟩:=open_int Tryz.underlying3 (hval 0 3 v0 rfl rfl) h0;obtain⟨a1,rfl,rfl,rfl,w1⟩:=open_string Tryz.underlying9 (hval 1 9 v1 rfl rfl) h1;obtain⟨a2,rfl,rfl,rfl,w2⟩:=open_string Tryz.underlying9 (hval 2 9 v2 rfl rfl) h2;refine(Sp.calls (aeM ⟨a0,a1,a2⟩) W (vs:= #[.int .i64 a0,.string a1,.string a2]) (.cons (by simp[bD,i64,boo]) (.cons (by simp[bD,i64,boo]) (.cons (by simp[bD,i64,boo]) (.nil)))) (λ_ _ h=>h)).mono λe W' ⟨he,hg⟩=> ?_
 subst he;exact⟨_,rfl,afe laidOut again hW' hg rfl rfl Tryz.underlying4 rfl rfl rfl⟩
theorem over:Rows.pointEpochsRow.holds Tryz.pinned (OpenSpec.ofChange Rows.pointEpochsSpec):=
 OpenClaim.holds_of_wide 9 Tryz.f9 rfl rfl rfl rfl rfl rfl rfl ⟨rfl,rfl,rfl,rfl,rfl⟩ rfl rfl rfl rfl rfl (by kernel_rfl) Tryz.func9 OX
  (aS (by kernel_rfl)) (by unfold Func.isWrapper;rw[if_neg (aT (by kernel_rfl))];exact⟨rfl,rfl⟩)
  (λos started H enc _=>lifted os started H enc)
theorem proved:Rows.PointEpochsSaid:=over
end PointEpochs
end Go.Proofs.YtenfleoejgjklaaGreat
end
