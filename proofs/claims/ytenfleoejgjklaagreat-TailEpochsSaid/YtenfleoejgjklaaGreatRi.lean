import Derived.Test.YtenfleoejgjklaaGreatRa
import Derived.Test.YtenfleoejgjklaaGreatRb
import Derived.Test.YtenfleoejgjklaaGreatRc
import Derived.Test.YtenfleoejgjklaaGreatRd
import Derived.Test.YtenfleoejgjklaaGreatRe
import Derived.Test.YtenfleoejgjklaaGreatRf
import Derived.Test.YtenfleoejgjklaaGreatRg
import Derived.Test.YtenfleoejgjklaaGreatRh
import Derived.Test.YtenfleoejgjklaaGreatRows
import Derived.JoinedOf
set_option linter.unusedVariables false
set_option linter.unusedSimpArgs false
set_option linter.unnecessarySimpa false
section
namespace Go.Proofs.YtenfleoejgjklaaGreat
open Go
theorem Hq : (Rows.tailEpochsRow.inPlace == Tryz.prog.inPlace 4) = true := by kernel_rfl
theorem zk : (Rows.tailEpochsRow.unfollowed == Tryz.prog.unfollowed 4) = true := by kernel_rfl
end Go.Proofs.YtenfleoejgjklaaGreat
end
