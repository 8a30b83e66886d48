import Derived.Test.YtenfleoejgjklaaGreatYa
import Derived.Test.YtenfleoejgjklaaGreatYb
import Derived.Test.YtenfleoejgjklaaGreatYc
import Derived.Test.YtenfleoejgjklaaGreatYd
import Derived.Test.YtenfleoejgjklaaGreatYe
import Derived.Test.YtenfleoejgjklaaGreatYf
import Derived.Test.YtenfleoejgjklaaGreatYg
import Derived.Test.YtenfleoejgjklaaGreatYh
import Derived.Test.YtenfleoejgjklaaGreatYi
import Derived.Test.YtenfleoejgjklaaGreatYj
set_option linter.unusedVariables false
set_option linter.unusedSimpArgs false
set_option linter.unnecessarySimpa false
section
namespace Go.Proofs.YtenfleoejgjklaaGreat
open Go
theorem Ru:joinedFacts Tryz.prog 6 Tryz.f6 Rows.pointTwiceSpec Rows.pointTwiceRow=true:=by
 unfold joinedFacts;rw[Gm,Ad,Fq,Rt]
 kernel_rfl
end Go.Proofs.YtenfleoejgjklaaGreat
end
