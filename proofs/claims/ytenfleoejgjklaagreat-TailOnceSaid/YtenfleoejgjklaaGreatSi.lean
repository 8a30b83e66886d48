import Derived.Test.YtenfleoejgjklaaGreatSa
import Derived.Test.YtenfleoejgjklaaGreatSb
import Derived.Test.YtenfleoejgjklaaGreatSc
import Derived.Test.YtenfleoejgjklaaGreatSd
import Derived.Test.YtenfleoejgjklaaGreatSe
import Derived.Test.YtenfleoejgjklaaGreatSf
import Derived.Test.YtenfleoejgjklaaGreatSg
import Derived.Test.YtenfleoejgjklaaGreatSh
import Derived.Test.YtenfleoejgjklaaGreatRows
import Derived.JoinedOf
set_option linter.unusedVariables false
set_option linter.unusedSimpArgs false
set_option linter.unnecessarySimpa false
section
namespace Go.Proofs.YtenfleoejgjklaaGreat
open Go
theorem PG : (Rows.tailOnceRow.inPlace == Tryz.prog.inPlace 3) = true := by kernel_rfl
theorem Ci : (Rows.tailOnceRow.unfollowed == Tryz.prog.unfollowed 3) = true := by kernel_rfl
end Go.Proofs.YtenfleoejgjklaaGreat
end
