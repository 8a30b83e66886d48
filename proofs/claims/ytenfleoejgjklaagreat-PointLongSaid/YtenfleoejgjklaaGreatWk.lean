import Derived.Test.YtenfleoejgjklaaGreatWa
import Derived.Test.YtenfleoejgjklaaGreatWb
import Derived.Test.YtenfleoejgjklaaGreatWc
import Derived.Test.YtenfleoejgjklaaGreatWd
import Derived.Test.YtenfleoejgjklaaGreatWe
import Derived.Test.YtenfleoejgjklaaGreatWf
import Derived.Test.YtenfleoejgjklaaGreatWg
import Derived.Test.YtenfleoejgjklaaGreatWh
import Derived.Test.YtenfleoejgjklaaGreatWi
import Derived.Test.YtenfleoejgjklaaGreatWj
set_option linter.unusedVariables false
set_option linter.unusedSimpArgs false
set_option linter.unnecessarySimpa false
section
namespace Go.Proofs.YtenfleoejgjklaaGreat
open Go
theorem X6:joinedFacts Tryz.prog 7 Tryz.f7 Rows.pointLongSpec Rows.pointLongRow=true:=by
 unfold joinedFacts;rw[Nv,Bv,Gq,X0]
 kernel_rfl
end Go.Proofs.YtenfleoejgjklaaGreat
end
