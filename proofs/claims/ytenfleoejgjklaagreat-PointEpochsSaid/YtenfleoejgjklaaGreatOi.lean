import Derived.Test.YtenfleoejgjklaaGreatOa
import Derived.Test.YtenfleoejgjklaaGreatOb
import Derived.Test.YtenfleoejgjklaaGreatOc
import Derived.Test.YtenfleoejgjklaaGreatOd
import Derived.Test.YtenfleoejgjklaaGreatOe
import Derived.Test.YtenfleoejgjklaaGreatOf
import Derived.Test.YtenfleoejgjklaaGreatOg
import Derived.Test.YtenfleoejgjklaaGreatOh
import Derived.Test.YtenfleoejgjklaaGreatRows
import Derived.JoinedOf
set_option linter.unusedVariables false
set_option linter.unusedSimpArgs false
set_option linter.unnecessarySimpa false
section
namespace Go.Proofs.YtenfleoejgjklaaGreat
open Go
theorem GL:(Rows.pointEpochsRow.inPlace==Tryz.prog.inPlace 9)=true:=by kernel_rfl
theorem y9:(Rows.pointEpochsRow.unfollowed==Tryz.prog.unfollowed 9)=true:=by kernel_rfl
end Go.Proofs.YtenfleoejgjklaaGreat
end
