import Derived.Test.YtenfleoejgjklaaGreatKa
import Derived.Test.YtenfleoejgjklaaGreatKb
import Derived.Test.YtenfleoejgjklaaGreatKc
import Derived.Test.YtenfleoejgjklaaGreatKd
import Derived.Test.YtenfleoejgjklaaGreatKe
import Derived.Test.YtenfleoejgjklaaGreatKf
import Derived.Test.YtenfleoejgjklaaGreatKg
import Derived.Test.YtenfleoejgjklaaGreatKh
import Derived.Test.YtenfleoejgjklaaGreatKi
import Derived.Test.YtenfleoejgjklaaGreatKj
import Derived.Test.YtenfleoejgjklaaGreatKk
import Derived.ChangeMaps5
set_option linter.unusedVariables false
set_option linter.unusedSimpArgs false
set_option linter.unnecessarySimpa false
section
namespace Go.Proofs.YtenfleoejgjklaaGreat
open Go SE
open Go.ChangeShapes Go.WideShapes Go.ChangeAt Go.RowKit Go.ChangeMaps
theorem own:ownKnob Tryz.prog.godebug=none:=by kernel_rfl
theorem laidOut:laidOutB Tryz.prog=true:=by kernel_rfl
namespace PointHeld
theorem CP:Tryz.prog.cellsOf 9=1:=by kernel_rfl
theorem again:qV Tryz.prog Tryz.f11.params.toList=true:=by kernel_rfl
set_option maxRecDepth 100000 in
theorem lifted(os:Os)(started:os.Started)(H:Type)(enc:TypeId×Value->H):
  ReturnsInHanded {} Tryz.checked os 11 .any (Rows.pointHeldSpec.pre6 enc Tryz.prog Tryz.f11 Rows.pointHeldRow.domain false) (Rows.pointHeldSpec.post enc Tryz.prog Tryz.f11 false true false false):=by
 refine returnsInHanded_of_change (C:=Tryz.checked) own started (by kernel_rfl) Tryz.func11
  (ChangeSpec.witness6 (enc:=enc) (C:=Tryz.checked) false ⟨#[],#[.slice none 0 0,.string ⟨#[]⟩],[]⟩ 8 (by kernel_rfl) (by kernel_rfl) (by kernel_rfl) (by kernel_rfl)) ?_
 intro W base args ds gs before hval0 hW hcnd _;have hval: ∀(j:Nat) t v,Tryz.f11.params[j]? =some t->args[j]? =some v->Value.okWide Tryz.prog W .any base t v:=hval0;have hW':=hW;obtain⟨p,q,hA0,hV,rfl,hfz,hnd⟩:=hW;have hA:DataW.TrodAll enc Tryz.prog W 0 (λ_=>true) true Tryz.f11.params.toList args.toList ds p:=hA0;rw[Tryz.params11]at hA hval;obtain⟨v0,vs0,d0,ds0,p0,q0,hargs,rfl,rfl,h0,r0⟩:=trodAll_cons hA;obtain⟨v1,vs1,d1,ds1,p1,q1,rfl,rfl,rfl,h1,r1⟩:=trodAll_cons r0;obtain⟨rfl,rfl,rfl⟩:=trodAll_nil r1;obtain rfl:args= #[v0,v1]:=by cases args;simp_all
 obtain⟨rfl,rfl⟩:=trodVars_none hV;obtain⟨a1,rfl,rfl,rfl,w1⟩:=open_string Tryz.underlying9 (hval 1 9 v1 rfl rfl) h1;obtain⟨g1,n1,A1,_,_,hv1,ho1⟩:=open_row (T:=λb=>W.heap.size<=b) (f:=λz:ByteArray=>[Value.string z]) (m:=1) ⟨#[]⟩ (λ_=>True) (λ_=>rfl) (by omega) Tryz.underlying65 CP (hval 0 65 v0 rfl rfl) h0 (λb hb=>by omega)
  (λfuel cs y h=>by
   obtain⟨z,e,_⟩:=DataW.trod_string Tryz.underlying9 h
   exact⟨z,trivial,e⟩)
 refine(Sp.afp 1 _ [A1] (ao5 ⟨n1,g1,a1⟩) rfl W ⟨ho1 _ _,trivial⟩ (vs:= #[v0,.string a1]) (.cons (hv1 _ 0 rfl) (.cons (by simp[bF,i64,boo]) (.nil))) (λ_ _ h=>h)).mono λe W' ⟨he,hg⟩=> ?_
 subst he;exact⟨_,rfl,afk laidOut again hW' hg rfl rfl Tryz.underlying4 rfl rfl rfl⟩
theorem over:Rows.pointHeldRow.holds Tryz.pinned (OpenSpec.ofChange Rows.pointHeldSpec):=
 OpenClaim.holds_of_wide 11 Tryz.f11 rfl rfl rfl rfl rfl rfl rfl ⟨rfl,rfl,rfl,rfl,rfl⟩ rfl rfl rfl rfl rfl (by kernel_rfl) Tryz.func11 Zh
  (aS (by kernel_rfl)) (by unfold Func.isWrapper;rw[if_neg (aT (by kernel_rfl))];exact⟨rfl,rfl⟩)
  (λos started H enc _=>lifted os started H enc)
theorem proved:Rows.PointHeldSaid:=over
end PointHeld
end Go.Proofs.YtenfleoejgjklaaGreat
end
