import Derived.Test.YtenfleoejgjklaaGreatOa
import Derived.Test.YtenfleoejgjklaaGreatOb
import Derived.Test.YtenfleoejgjklaaGreatOc
import Derived.Test.YtenfleoejgjklaaGreatOd
import Derived.Test.YtenfleoejgjklaaGreatOe
import Derived.Test.YtenfleoejgjklaaGreatOf
import Derived.Test.YtenfleoejgjklaaGreatOg
import Derived.Test.YtenfleoejgjklaaGreatOh
import Derived.Test.YtenfleoejgjklaaGreatOi
set_option linter.unusedVariables false
set_option linter.unusedSimpArgs false
set_option linter.unnecessarySimpa false
section
namespace Go.Proofs.YtenfleoejgjklaaGreat
open Go
theorem CU:(Rows.pointEpochsRow.recurses==Tryz.prog.recurses 9)=true:=by kernel_rfl
theorem OW:(Rows.pointEpochsRow.named==Tryz.prog.varsNamed 9)=true:=by kernel_rfl
end Go.Proofs.YtenfleoejgjklaaGreat
end
