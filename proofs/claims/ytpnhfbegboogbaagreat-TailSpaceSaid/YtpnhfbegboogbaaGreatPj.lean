import Derived.Test.YtpnhfbegboogbaaGreatPa
import Derived.Test.YtpnhfbegboogbaaGreatPb
import Derived.Test.YtpnhfbegboogbaaGreatPc
import Derived.Test.YtpnhfbegboogbaaGreatPd
import Derived.Test.YtpnhfbegboogbaaGreatPe
import Derived.Test.YtpnhfbegboogbaaGreatPf
import Derived.Test.YtpnhfbegboogbaaGreatPg
import Derived.Test.YtpnhfbegboogbaaGreatPh
import Derived.Test.YtpnhfbegboogbaaGreatPi
set_option linter.unusedVariables false
set_option linter.unusedSimpArgs false
set_option linter.unnecessarySimpa false
section
namespace Go.Proofs.YtpnhfbegboogbaaGreat
open Go
theorem tspace_recurses : (Rows.tailSpaceRow.recurses == Tryz.prog.recurses 6) = true := by kernel_rfl
theorem tspace_named : (Rows.tailSpaceRow.named == Tryz.prog.varsNamed 6) = true := by kernel_rfl
end Go.Proofs.YtpnhfbegboogbaaGreat
end
