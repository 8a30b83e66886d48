import Derived.Test.YtenfleoejgjklaaGreatSa
import Derived.Test.YtenfleoejgjklaaGreatSb
import Derived.Test.YtenfleoejgjklaaGreatSc
import Derived.Test.YtenfleoejgjklaaGreatSd
import Derived.Test.YtenfleoejgjklaaGreatSe
import Derived.Test.YtenfleoejgjklaaGreatSf
import Derived.Test.YtenfleoejgjklaaGreatSg
import Derived.Test.YtenfleoejgjklaaGreatSh
import Derived.Test.YtenfleoejgjklaaGreatSi
set_option linter.unusedVariables false
set_option linter.unusedSimpArgs false
set_option linter.unnecessarySimpa false
section
namespace Go.Proofs.YtenfleoejgjklaaGreat
open Go
theorem Iy : (Rows.tailOnceRow.recurses == Tryz.prog.recurses 3) = true := by kernel_rfl
theorem Yh : (Rows.tailOnceRow.named == Tryz.prog.varsNamed 3) = true := by kernel_rfl
end Go.Proofs.YtenfleoejgjklaaGreat
end
