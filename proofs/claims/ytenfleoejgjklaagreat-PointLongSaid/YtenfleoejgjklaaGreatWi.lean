import Derived.Test.YtenfleoejgjklaaGreatWa
import Derived.Test.YtenfleoejgjklaaGreatWb
import Derived.Test.YtenfleoejgjklaaGreatWc
import Derived.Test.YtenfleoejgjklaaGreatWd
import Derived.Test.YtenfleoejgjklaaGreatWe
import Derived.Test.YtenfleoejgjklaaGreatWf
import Derived.Test.YtenfleoejgjklaaGreatWg
import Derived.Test.YtenfleoejgjklaaGreatWh
import Derived.Test.YtenfleoejgjklaaGreatRows
import Derived.JoinedOf
set_option linter.unusedVariables false
set_option linter.unusedSimpArgs false
set_option linter.unnecessarySimpa false
section
namespace Go.Proofs.YtenfleoejgjklaaGreat
open Go
theorem Nv:(Rows.pointLongRow.inPlace==Tryz.prog.inPlace 7)=true:=by kernel_rfl
theorem Bv:(Rows.pointLongRow.unfollowed==Tryz.prog.unfollowed 7)=true:=by kernel_rfl
end Go.Proofs.YtenfleoejgjklaaGreat
end
