import Derived.Test.YtenfleoejgjklaaGreatUa
import Derived.Test.YtenfleoejgjklaaGreatUb
import Derived.Test.YtenfleoejgjklaaGreatUc
import Derived.Test.YtenfleoejgjklaaGreatUd
import Derived.Test.YtenfleoejgjklaaGreatUe
import Derived.Test.YtenfleoejgjklaaGreatUf
import Derived.Test.YtenfleoejgjklaaGreatUg
import Derived.Test.YtenfleoejgjklaaGreatUh
import Derived.Test.YtenfleoejgjklaaGreatUi
import Derived.Test.YtenfleoejgjklaaGreatUj
import Derived.Test.YtenfleoejgjklaaGreatUk
set_option linter.unusedVariables false
set_option linter.unusedSimpArgs false
set_option linter.unnecessarySimpa false
section
namespace Go.Proofs.YtenfleoejgjklaaGreat
open Go
theorem acR:joinedFacts Tryz.prog 5 Tryz.f5 Rows.tailHeldSpec Rows.tailHeldRow=true:=by
 unfold joinedFacts
 rw[UO,F8,Mc,acQ]
 kernel_rfl
end Go.Proofs.YtenfleoejgjklaaGreat
end
section
namespace Go.Proofs.YtenfleoejgjklaaGreat
open Go SE
open Go.ChangeShapes Go.WideShapes Go.ChangeAt Go.RowKit
theorem own:ownKnob Tryz.prog.godebug=none:=by kernel_rfl
theorem laidOut:laidOutB Tryz.prog=true:=by kernel_rfl
namespace TailHeld
theorem KC:Tryz.prog.cellsOf 9=1:=by kernel_rfl
theorem again:uT Tryz.prog Tryz.f5.params.toList=true:=by kernel_rfl
set_option maxRecDepth 100000 in
theorem lifted(os:Os)(started:os.Started)(H:Type)(enc:TypeId×Value->H):
  ReturnsInHanded {} Tryz.checked os 5 .any (Rows.tailHeldSpec.pre6 enc Tryz.prog Tryz.f5 Rows.tailHeldRow.domain false) (Rows.tailHeldSpec.post enc Tryz.prog Tryz.f5 false true false false):=by
 refine returnsInHanded_of_change (C:=Tryz.checked) own started (by kernel_rfl) Tryz.func5
  (ChangeSpec.witness6 (enc:=enc) (C:=Tryz.checked) false ⟨#[],#[.slice none 0 0,.int .i64 0],[]⟩ 8 (by kernel_rfl) (by kernel_rfl) (by kernel_rfl) (by kernel_rfl)) ?_
 intro W base args ds gs before hval0 hW hcnd _
 have hval: ∀(j:Nat) t v,Tryz.f5.params[j]? =some t->args[j]? =some v->Value.okWide Tryz.prog W .any base t v:=hval0
 have hW':=hW
 obtain⟨p,q,hA0,hV,rfl,hfz,hnd⟩:=hW
 have hA:DataW.TrodAll enc Tryz.prog W 0 (fun _=>true) true Tryz.f5.params.toList args.toList ds p:=hA0
 rw[Tryz.params5]at hA hval
 obtain⟨v0,vs0,d0,ds0,p0,q0,hargs,rfl,rfl,h0,r0⟩:=trodAll_cons hA
 obtain⟨v1,vs1,d1,ds1,p1,q1,rfl,rfl,rfl,h1,r1⟩:=trodAll_cons r0
 obtain⟨rfl,rfl,rfl⟩:=trodAll_nil r1
 obtain rfl:args= #[v0,v1]:=by cases args;simp_all
 obtain⟨rfl,rfl⟩:=trodVars_none hV
 obtain⟨a1,rfl,rfl,rfl,w1⟩:=open_int Tryz.underlying3 (hval 1 3 v1 rfl rfl) h1
 obtain⟨g1,n1,A1,_,_,hv1,ho1⟩:=open_row (T:=fun b=>W.heap.size<=b) (f:=fun z:ByteArray=>[Value.string z]) (m:=1) ⟨#[]⟩ (fun _=>True) (fun _=>rfl) (by omega) Tryz.underlying65 KC (hval 0 65 v0 rfl rfl) h0 (fun b hb=>by omega)
  (fun fuel cs y h=>by
   obtain⟨z,e,_⟩:=DataW.trod_string Tryz.underlying9 h
   exact⟨z,trivial,e⟩)
 refine(Sp.ajr 1 _ [A1] (avG ⟨n1,g1,a1⟩) rfl W ⟨ho1 _ _,trivial⟩ (vs:= #[v0,.int .i64 a1]) (.cons (hv1 _ 0 rfl) (.cons (by simp[bV,i64,boo]) (.nil))) (fun _ _ h=>h)).mono fun e W' ⟨he,hg⟩=> ?_
 subst he
 exact⟨_,rfl,ajn laidOut again hW' hg rfl rfl Tryz.underlying4 rfl rfl rfl⟩
theorem over:Rows.tailHeldRow.holds Tryz.pinned (OpenSpec.ofChange Rows.tailHeldSpec):=
 OpenClaim.holds_of_wide 5 Tryz.f5 rfl rfl rfl rfl rfl rfl rfl ⟨rfl,rfl,rfl,rfl,rfl⟩ rfl rfl rfl rfl rfl (by kernel_rfl) Tryz.func5 acR
  (aQ (by kernel_rfl)) (by unfold Func.isWrapper;rw[if_neg (aS (by kernel_rfl))];exact⟨rfl,rfl⟩)
  (fun os started H enc _=>lifted os started H enc)
theorem proved:Rows.TailHeldSaid:=over
end TailHeld
end Go.Proofs.YtenfleoejgjklaaGreat
end
