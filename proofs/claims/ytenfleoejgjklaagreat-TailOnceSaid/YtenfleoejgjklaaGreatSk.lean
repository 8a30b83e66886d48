import Derived.Test.YtenfleoejgjklaaGreatSa
import Derived.Test.YtenfleoejgjklaaGreatSb
import Derived.Test.YtenfleoejgjklaaGreatSc
import Derived.Test.YtenfleoejgjklaaGreatSd
import Derived.Test.YtenfleoejgjklaaGreatSe
import Derived.Test.YtenfleoejgjklaaGreatSf
import Derived.Test.YtenfleoejgjklaaGreatSg
import Derived.Test.YtenfleoejgjklaaGreatSh
import Derived.Test.YtenfleoejgjklaaGreatSi
import Derived.Test.YtenfleoejgjklaaGreatSj
set_option linter.unusedVariables false
set_option linter.unusedSimpArgs false
set_option linter.unnecessarySimpa false
section
namespace Go.Proofs.YtenfleoejgjklaaGreat
open Go
theorem Yi : joinedFacts Tryz.prog 3 Tryz.f3 Rows.tailOnceSpec Rows.tailOnceRow = true := by
 unfold joinedFacts
 rw [PG,Ci,Iy,Yh]
 kernel_rfl
end Go.Proofs.YtenfleoejgjklaaGreat
end
