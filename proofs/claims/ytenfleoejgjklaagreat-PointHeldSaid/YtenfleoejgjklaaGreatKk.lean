import Derived.Test.YtenfleoejgjklaaGreatKa
import Derived.Test.YtenfleoejgjklaaGreatKb
import Derived.Test.YtenfleoejgjklaaGreatKc
import Derived.Test.YtenfleoejgjklaaGreatKd
import Derived.Test.YtenfleoejgjklaaGreatKe
import Derived.Test.YtenfleoejgjklaaGreatKf
import Derived.Test.YtenfleoejgjklaaGreatKg
import Derived.Test.YtenfleoejgjklaaGreatKh
import Derived.Test.YtenfleoejgjklaaGreatKi
import Derived.Test.YtenfleoejgjklaaGreatKj
set_option linter.unusedVariables false
set_option linter.unusedSimpArgs false
set_option linter.unnecessarySimpa false
section
namespace Go.Proofs.YtenfleoejgjklaaGreat
open Go
theorem Zh:joinedFacts Tryz.prog 11 Tryz.f11 Rows.pointHeldSpec Rows.pointHeldRow=true:=by
 unfold joinedFacts;rw[OI,CO,Hy,Zg]
 kernel_rfl
end Go.Proofs.YtenfleoejgjklaaGreat
end
