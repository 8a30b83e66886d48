import Derived.Test.YtenfleoejgjklaaGreatRa
import Derived.Test.YtenfleoejgjklaaGreatRb
import Derived.Test.YtenfleoejgjklaaGreatRc
import Derived.Test.YtenfleoejgjklaaGreatRd
import Derived.Test.YtenfleoejgjklaaGreatRe
import Derived.Test.YtenfleoejgjklaaGreatRf
import Derived.Test.YtenfleoejgjklaaGreatRg
import Derived.Test.YtenfleoejgjklaaGreatRh
import Derived.Test.YtenfleoejgjklaaGreatRi
import Derived.Test.YtenfleoejgjklaaGreatRj
set_option linter.unusedVariables false
set_option linter.unusedSimpArgs false
set_option linter.unnecessarySimpa false
section
namespace Go.Proofs.YtenfleoejgjklaaGreat
open Go
theorem Qw : joinedFacts Tryz.prog 4 Tryz.f4 Rows.tailEpochsSpec Rows.tailEpochsRow = true := by
 unfold joinedFacts
 rw [Hq,zk,Dp,Qv]
 kernel_rfl
end Go.Proofs.YtenfleoejgjklaaGreat
end
