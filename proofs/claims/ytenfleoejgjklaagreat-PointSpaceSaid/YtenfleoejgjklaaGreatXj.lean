import Derived.Test.YtenfleoejgjklaaGreatXa
import Derived.Test.YtenfleoejgjklaaGreatXb
import Derived.Test.YtenfleoejgjklaaGreatXc
import Derived.Test.YtenfleoejgjklaaGreatXd
import Derived.Test.YtenfleoejgjklaaGreatXe
import Derived.Test.YtenfleoejgjklaaGreatXf
import Derived.Test.YtenfleoejgjklaaGreatXg
import Derived.Test.YtenfleoejgjklaaGreatXh
import Derived.Test.YtenfleoejgjklaaGreatXi
set_option linter.unusedVariables false
set_option linter.unusedSimpArgs false
set_option linter.unnecessarySimpa false
section
namespace Go.Proofs.YtenfleoejgjklaaGreat
open Go
theorem FW:(Rows.pointSpaceRow.recurses==Tryz.prog.recurses 8)=true:=by kernel_rfl
theorem SL:(Rows.pointSpaceRow.named==Tryz.prog.varsNamed 8)=true:=by kernel_rfl
end Go.Proofs.YtenfleoejgjklaaGreat
end
