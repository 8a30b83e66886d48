import Derived.Test.YtenfleoejgjklaaGreatRa
import Derived.Test.YtenfleoejgjklaaGreatRb
import Derived.Test.YtenfleoejgjklaaGreatRc
import Derived.Test.YtenfleoejgjklaaGreatRd
import Derived.Test.YtenfleoejgjklaaGreatRe
import Derived.Test.YtenfleoejgjklaaGreatRf
import Derived.Test.YtenfleoejgjklaaGreatRg
import Derived.Test.YtenfleoejgjklaaGreatRh
import Derived.Test.YtenfleoejgjklaaGreatRi
set_option linter.unusedVariables false
set_option linter.unusedSimpArgs false
set_option linter.unnecessarySimpa false
section
namespace Go.Proofs.YtenfleoejgjklaaGreat
open Go
theorem Dp : (Rows.tailEpochsRow.recurses == Tryz.prog.recurses 4) = true := by kernel_rfl
theorem Qv : (Rows.tailEpochsRow.named == Tryz.prog.varsNamed 4) = true := by kernel_rfl
end Go.Proofs.YtenfleoejgjklaaGreat
end
