import Derived.Test.YtpnhfbegboogbaaGreatPa
import Derived.Test.YtpnhfbegboogbaaGreatPb
import Derived.Test.YtpnhfbegboogbaaGreatPc
import Derived.Test.YtpnhfbegboogbaaGreatPd
import Derived.Test.YtpnhfbegboogbaaGreatPe
import Derived.Test.YtpnhfbegboogbaaGreatPf
import Derived.Test.YtpnhfbegboogbaaGreatPg
import Derived.Test.YtpnhfbegboogbaaGreatPh
import Derived.Test.YtpnhfbegboogbaaGreatRows
import Derived.JoinedOf
set_option linter.unusedVariables false
set_option linter.unusedSimpArgs false
set_option linter.unnecessarySimpa false
section
namespace Go.Proofs.YtpnhfbegboogbaaGreat
open Go
theorem tspace_inPlace : (Rows.tailSpaceRow.inPlace == Tryz.prog.inPlace 6) = true := by kernel_rfl
theorem tspace_unfollowed : (Rows.tailSpaceRow.unfollowed == Tryz.prog.unfollowed 6) = true := by kernel_rfl
end Go.Proofs.YtpnhfbegboogbaaGreat
end
