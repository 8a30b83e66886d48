import Derived.Test.YtenfleoejgjklaaGreatYa
import Derived.Test.YtenfleoejgjklaaGreatYb
import Derived.Test.YtenfleoejgjklaaGreatYc
import Derived.Test.YtenfleoejgjklaaGreatYd
import Derived.Test.YtenfleoejgjklaaGreatYe
import Derived.Test.YtenfleoejgjklaaGreatYf
import Derived.Test.YtenfleoejgjklaaGreatYg
import Derived.Test.YtenfleoejgjklaaGreatYh
import Derived.Test.YtenfleoejgjklaaGreatRows
import Derived.JoinedOf
set_option linter.unusedVariables false
set_option linter.unusedSimpArgs false
set_option linter.unnecessarySimpa false
section
namespace Go.Proofs.YtenfleoejgjklaaGreat
open Go
theorem Gm:(Rows.pointTwiceRow.inPlace==Tryz.prog.inPlace 6)=true:=by kernel_rfl
theorem Ad:(Rows.pointTwiceRow.unfollowed==Tryz.prog.unfollowed 6)=true:=by kernel_rfl
end Go.Proofs.YtenfleoejgjklaaGreat
end
