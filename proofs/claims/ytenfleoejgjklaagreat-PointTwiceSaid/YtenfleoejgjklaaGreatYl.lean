import Derived.Test.YtenfleoejgjklaaGreatYa
import Derived.Test.YtenfleoejgjklaaGreatYb
import Derived.Test.YtenfleoejgjklaaGreatYc
import Derived.Test.YtenfleoejgjklaaGreatYd
import Derived.Test.YtenfleoejgjklaaGreatYe
import Derived.Test.YtenfleoejgjklaaGreatYf
import Derived.Test.YtenfleoejgjklaaGreatYg
import Derived.Test.YtenfleoejgjklaaGreatYh
import Derived.Test.YtenfleoejgjklaaGreatYi
import Derived.Test.YtenfleoejgjklaaGreatYj
import Derived.Test.YtenfleoejgjklaaGreatYk
import Derived.ChangeMaps5
set_option linter.unusedVariables false
set_option linter.unusedSimpArgs false
set_option linter.unnecessarySimpa false
section
namespace Go.Proofs.YtenfleoejgjklaaGreat
open Go SE
open Go.ChangeShapes Go.WideShapes Go.ChangeAt Go.RowKit Go.ChangeMaps
theorem own:ownKnob Tryz.prog.godebug=none:=by kernel_rfl
theorem laidOut:laidOutB Tryz.prog=true:=by kernel_rfl
namespace PointTwice
theorem Ae:Tryz.prog.cellsOf 4=1:=by kernel_rfl
theorem again:qm Tryz.prog Tryz.f6.params.toList=true:=by kernel_rfl
set_option maxRecDepth 100000 in
theorem lifted(os:Os)(started:os.Started)(H:Type)(enc:TypeId×Value->H):
  ReturnsInHanded {} Tryz.checked os 6 .any (Rows.pointTwiceSpec.pre6 enc Tryz.prog Tryz.f6 Rows.pointTwiceRow.domain false) (Rows.pointTwiceSpec.post enc Tryz.prog Tryz.f6 false true false false):=by
 refine returnsInHanded_of_change (C:=Tryz.checked) own started (by kernel_rfl) Tryz.func6
  (ChangeSpec.witness6 (enc:=enc) (C:=Tryz.checked) false ⟨#[],#[.slice none 0 0,.string ⟨#[]⟩,.string ⟨#[]⟩],[]⟩ 8 (by kernel_rfl) (by kernel_rfl) (by kernel_rfl) (by kernel_rfl)) ?_
 intro W base args ds gs before hval0 hW hcnd _;have hval: ∀(j:Nat) t v,Tryz.f6.params[j]? =some t->args[j]? =some v->Value.okWide Tryz.prog W .any base t v:=hval0;have hW':=hW;obtain⟨p,q,hA0,hV,rfl,hfz,hnd⟩:=hW;have hA:DataW.TrodAll enc Tryz.prog W 0 (λ_=>true) true Tryz.f6.params.toList args.toList ds p:=hA0;rw[Tryz.params6]at hA hval;obtain⟨v0,vs0,d0,ds0,p0,q0,hargs,rfl,rfl,h0,r0⟩:=trodAll_cons hA;obtain⟨v1,vs1,d1,ds1,p1,q1,rfl,rfl,rfl,h1,r1⟩:=trodAll_cons r0;obtain⟨v2,vs2,d2,ds2,p2,q2,rfl,rfl,rfl,h2,r2⟩:=trodAll_cons r1;obtain⟨rfl,rfl,rfl⟩:=trodAll_nil r2;obtain rfl:args= #[v0,v1,v2]:=by cases args;simp_all
 obtain⟨rfl,rfl⟩:=trodVars_none hV;obtain⟨a1,rfl,rfl,rfl,w1⟩:=open_string Tryz.underlying9 (hval 1 9 v1 rfl rfl) h1;obtain⟨a2,rfl,rfl,rfl,w2⟩:=open_string Tryz.underlying9 (hval 2 9 v2 rfl rfl) h2;obtain⟨g1,n1,A1,_,_,hv1,ho1⟩:=open_row (T:=λb=>W.heap.size<=b) (f:=λz:Bool=>[Value.bool z]) (m:=1) false (λ_=>True) (λ_=>rfl) (by omega) Tryz.underlying30 Ae (hval 0 30 v0 rfl rfl) h0 (λb hb=>by omega)
  (λfuel cs y h=>by
   obtain⟨z,e,_⟩:=DataW.trod_bool Tryz.underlying4 h
   exact⟨z,trivial,e⟩)
 refine(Sp.ac9 1 _ [A1] (aiN ⟨n1,g1,a1,a2⟩) rfl W ⟨ho1 _ _,trivial⟩ (vs:= #[v0,.string a1,.string a2]) (.cons (hv1 _ 0 rfl) (.cons (by simp[bn,i64,boo]) (.cons (by simp[bn,i64,boo]) (.nil)))) (λ_ _ h=>h)).mono λe W' ⟨he,hg⟩=> ?_
 subst he;exact⟨_,rfl,ac4 laidOut again hW' hg rfl rfl Tryz.underlying4 rfl rfl rfl⟩
theorem over:Rows.pointTwiceRow.holds Tryz.pinned (OpenSpec.ofChange Rows.pointTwiceSpec):=
 OpenClaim.holds_of_wide 6 Tryz.f6 rfl rfl rfl rfl rfl rfl rfl ⟨rfl,rfl,rfl,rfl,rfl⟩ rfl rfl rfl rfl rfl (by kernel_rfl) Tryz.func6 Ru
  (aS (by kernel_rfl)) (by unfold Func.isWrapper;rw[if_neg (aT (by kernel_rfl))];exact⟨rfl,rfl⟩)
  (λos started H enc _=>lifted os started H enc)
theorem proved:Rows.PointTwiceSaid:=over
end PointTwice
end Go.Proofs.YtenfleoejgjklaaGreat
end
