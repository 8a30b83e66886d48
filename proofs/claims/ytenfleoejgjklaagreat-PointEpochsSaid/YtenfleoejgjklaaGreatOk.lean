import Derived.Test.YtenfleoejgjklaaGreatOa
import Derived.Test.YtenfleoejgjklaaGreatOb
import Derived.Test.YtenfleoejgjklaaGreatOc
import Derived.Test.YtenfleoejgjklaaGreatOd
import Derived.Test.YtenfleoejgjklaaGreatOe
import Derived.Test.YtenfleoejgjklaaGreatOf
import Derived.Test.YtenfleoejgjklaaGreatOg
import Derived.Test.YtenfleoejgjklaaGreatOh
import Derived.Test.YtenfleoejgjklaaGreatOi
import Derived.Test.YtenfleoejgjklaaGreatOj
set_option linter.unusedVariables false
set_option linter.unusedSimpArgs false
set_option linter.unnecessarySimpa false
section
namespace Go.Proofs.YtenfleoejgjklaaGreat
open Go
theorem OX:joinedFacts Tryz.prog 9 Tryz.f9 Rows.pointEpochsSpec Rows.pointEpochsRow=true:=by
 unfold joinedFacts;rw[GL,y9,CU,OW]
 kernel_rfl
end Go.Proofs.YtenfleoejgjklaaGreat
end
