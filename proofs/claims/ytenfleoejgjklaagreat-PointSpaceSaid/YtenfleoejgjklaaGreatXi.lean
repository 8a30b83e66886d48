import Derived.Test.YtenfleoejgjklaaGreatXa
import Derived.Test.YtenfleoejgjklaaGreatXb
import Derived.Test.YtenfleoejgjklaaGreatXc
import Derived.Test.YtenfleoejgjklaaGreatXd
import Derived.Test.YtenfleoejgjklaaGreatXe
import Derived.Test.YtenfleoejgjklaaGreatXf
import Derived.Test.YtenfleoejgjklaaGreatXg
import Derived.Test.YtenfleoejgjklaaGreatXh
import Derived.Test.YtenfleoejgjklaaGreatRows
import Derived.JoinedOf
set_option linter.unusedVariables false
set_option linter.unusedSimpArgs false
set_option linter.unnecessarySimpa false
section
namespace Go.Proofs.YtenfleoejgjklaaGreat
open Go
theorem GI:(Rows.pointSpaceRow.inPlace==Tryz.prog.inPlace 8)=true:=by kernel_rfl
theorem Aj:(Rows.pointSpaceRow.unfollowed==Tryz.prog.unfollowed 8)=true:=by kernel_rfl
end Go.Proofs.YtenfleoejgjklaaGreat
end
