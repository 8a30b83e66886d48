import Derived.Test.YtenfleoejgjklaaGreatUa
import Derived.Test.YtenfleoejgjklaaGreatUb
import Derived.Test.YtenfleoejgjklaaGreatUc
import Derived.Test.YtenfleoejgjklaaGreatUd
import Derived.Test.YtenfleoejgjklaaGreatUe
import Derived.Test.YtenfleoejgjklaaGreatUf
import Derived.Test.YtenfleoejgjklaaGreatUg
import Derived.Test.YtenfleoejgjklaaGreatUh
import Derived.Test.YtenfleoejgjklaaGreatUi
import Derived.Test.YtenfleoejgjklaaGreatUj
set_option linter.unusedVariables false
set_option linter.unusedSimpArgs false
set_option linter.unnecessarySimpa false
section
namespace Go.Proofs.YtenfleoejgjklaaGreat
open Go
theorem Mc:(Rows.tailHeldRow.recurses==Tryz.prog.recurses 5)=true:=by kernel_rfl
theorem acQ:(Rows.tailHeldRow.named==Tryz.prog.varsNamed 5)=true:=by kernel_rfl
end Go.Proofs.YtenfleoejgjklaaGreat
end
