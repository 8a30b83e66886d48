import Derived.Test.YtpnhfbegboogbaaGreatQa
import Derived.Test.YtpnhfbegboogbaaGreatQb
import Derived.Test.YtpnhfbegboogbaaGreatQc
import Derived.Test.YtpnhfbegboogbaaGreatQd
import Derived.Test.YtpnhfbegboogbaaGreatQe
import Derived.Test.YtpnhfbegboogbaaGreatQf
import Derived.Test.YtpnhfbegboogbaaGreatQg
import Derived.Test.YtpnhfbegboogbaaGreatQh
import Derived.Test.YtpnhfbegboogbaaGreatQm
import Derived.Test.YtpnhfbegboogbaaGreatQn
set_option linter.unusedVariables false
set_option linter.unusedSimpArgs false
set_option linter.unnecessarySimpa false
section
namespace Go.Proofs.YtpnhfbegboogbaaGreat
open Go
theorem tlong_recurses : (Rows.tailLongRow.recurses == Tryz.prog.recurses 4) = true := by kernel_rfl
theorem tlong_named : (Rows.tailLongRow.named == Tryz.prog.varsNamed 4) = true := by kernel_rfl
end Go.Proofs.YtpnhfbegboogbaaGreat
end
