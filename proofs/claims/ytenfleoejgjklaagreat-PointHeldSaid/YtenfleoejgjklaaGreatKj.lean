import Derived.Test.YtenfleoejgjklaaGreatKa
import Derived.Test.YtenfleoejgjklaaGreatKb
import Derived.Test.YtenfleoejgjklaaGreatKc
import Derived.Test.YtenfleoejgjklaaGreatKd
import Derived.Test.YtenfleoejgjklaaGreatKe
import Derived.Test.YtenfleoejgjklaaGreatKf
import Derived.Test.YtenfleoejgjklaaGreatKg
import Derived.Test.YtenfleoejgjklaaGreatKh
import Derived.Test.YtenfleoejgjklaaGreatKi
set_option linter.unusedVariables false
set_option linter.unusedSimpArgs false
set_option linter.unnecessarySimpa false
section
namespace Go.Proofs.YtenfleoejgjklaaGreat
open Go
theorem Hy:(Rows.pointHeldRow.recurses==Tryz.prog.recurses 11)=true:=by kernel_rfl
theorem Zg:(Rows.pointHeldRow.named==Tryz.prog.varsNamed 11)=true:=by kernel_rfl
end Go.Proofs.YtenfleoejgjklaaGreat
end
