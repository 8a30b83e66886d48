import Derived.Test.YtenfleoejgjklaaGreatYa
import Derived.Test.YtenfleoejgjklaaGreatYb
import Derived.Test.YtenfleoejgjklaaGreatYc
import Derived.Test.YtenfleoejgjklaaGreatYd
import Derived.Test.YtenfleoejgjklaaGreatYe
import Derived.Test.YtenfleoejgjklaaGreatYf
import Derived.Test.YtenfleoejgjklaaGreatYg
import Derived.Test.YtenfleoejgjklaaGreatYh
import Derived.Test.YtenfleoejgjklaaGreatYi
set_option linter.unusedVariables false
set_option linter.unusedSimpArgs false
set_option linter.unnecessarySimpa false
section
namespace Go.Proofs.YtenfleoejgjklaaGreat
open Go
theorem Fq:(Rows.pointTwiceRow.recurses==Tryz.prog.recurses 6)=true:=by kernel_rfl
theorem Rt:(Rows.pointTwiceRow.named==Tryz.prog.varsNamed 6)=true:=by kernel_rfl
end Go.Proofs.YtenfleoejgjklaaGreat
end
