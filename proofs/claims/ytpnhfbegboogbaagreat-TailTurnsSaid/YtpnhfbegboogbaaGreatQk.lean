import Derived.Test.YtpnhfbegboogbaaGreatQa
import Derived.Test.YtpnhfbegboogbaaGreatQb
import Derived.Test.YtpnhfbegboogbaaGreatQc
import Derived.Test.YtpnhfbegboogbaaGreatQd
import Derived.Test.YtpnhfbegboogbaaGreatQe
import Derived.Test.YtpnhfbegboogbaaGreatQf
import Derived.Test.YtpnhfbegboogbaaGreatQg
import Derived.Test.YtpnhfbegboogbaaGreatQh
import Derived.Test.YtpnhfbegboogbaaGreatQi
import Derived.Test.YtpnhfbegboogbaaGreatQj
set_option linter.unusedVariables false
set_option linter.unusedSimpArgs false
set_option linter.unnecessarySimpa false
section
namespace Go.Proofs.YtpnhfbegboogbaaGreat
open Go
theorem tturns_recurses : (Rows.tailTurnsRow.recurses == Tryz.prog.recurses 5) = true := by kernel_rfl
theorem tturns_named : (Rows.tailTurnsRow.named == Tryz.prog.varsNamed 5) = true := by kernel_rfl
end Go.Proofs.YtpnhfbegboogbaaGreat
end
