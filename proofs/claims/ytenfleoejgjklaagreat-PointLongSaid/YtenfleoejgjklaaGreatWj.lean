import Derived.Test.YtenfleoejgjklaaGreatWa
import Derived.Test.YtenfleoejgjklaaGreatWb
import Derived.Test.YtenfleoejgjklaaGreatWc
import Derived.Test.YtenfleoejgjklaaGreatWd
import Derived.Test.YtenfleoejgjklaaGreatWe
import Derived.Test.YtenfleoejgjklaaGreatWf
import Derived.Test.YtenfleoejgjklaaGreatWg
import Derived.Test.YtenfleoejgjklaaGreatWh
import Derived.Test.YtenfleoejgjklaaGreatWi
set_option linter.unusedVariables false
set_option linter.unusedSimpArgs false
set_option linter.unnecessarySimpa false
section
namespace Go.Proofs.YtenfleoejgjklaaGreat
open Go
theorem Gq:(Rows.pointLongRow.recurses==Tryz.prog.recurses 7)=true:=by kernel_rfl
theorem X0:(Rows.pointLongRow.named==Tryz.prog.varsNamed 7)=true:=by kernel_rfl
end Go.Proofs.YtenfleoejgjklaaGreat
end
