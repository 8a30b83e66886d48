import Derived.Test.YtenfleoejgjklaaGreatXa
import Derived.Test.YtenfleoejgjklaaGreatXb
import Derived.Test.YtenfleoejgjklaaGreatXc
import Derived.Test.YtenfleoejgjklaaGreatXd
import Derived.Test.YtenfleoejgjklaaGreatXe
import Derived.Test.YtenfleoejgjklaaGreatXf
import Derived.Test.YtenfleoejgjklaaGreatXg
import Derived.Test.YtenfleoejgjklaaGreatXh
import Derived.Test.YtenfleoejgjklaaGreatXi
import Derived.Test.YtenfleoejgjklaaGreatXj
set_option linter.unusedVariables false
set_option linter.unusedSimpArgs false
set_option linter.unnecessarySimpa false
section
namespace Go.Proofs.YtenfleoejgjklaaGreat
open Go
theorem SN:joinedFacts Tryz.prog 8 Tryz.f8 Rows.pointSpaceSpec Rows.pointSpaceRow=true:=by
 unfold joinedFacts;rw[GI,Aj,FW,SL]
 kernel_rfl
end Go.Proofs.YtenfleoejgjklaaGreat
end
