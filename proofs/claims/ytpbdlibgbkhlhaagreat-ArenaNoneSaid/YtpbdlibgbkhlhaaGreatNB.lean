/- The words of the seat of those without an arena. -/
import Derived.Test.YtpbdlibgbkhlhaaGreatV11
import Derived.Test.YtpbdlibgbkhlhaaGreatRows
import Derived.KernelRfl
namespace Go.Proofs.YtpbdlibgbkhlhaaGreat
open Go SE
noncomputable def tt : TT := mkTI Tryz.prog
theorem tt_ok : tt.ok Tryz.prog := fun _ _ h => h
set_option maxRecDepth 20000
theorem mixed : Tryz.prog.follows .mixedOrders = true := by kernel_rfl
def i64 (n : Int) : AV := .lit (.int .i64 n)
end Go.Proofs.YtpbdlibgbkhlhaaGreat
