/- The words of the cost seat. -/
import Derived.Test.YtjndgegfonhhfaaV11
import Derived.Test.YtjndgegfonhhfaaRows
import Derived.KernelRfl
namespace Go.Proofs.Ytjndgegfonhhfaa
open Go SE
noncomputable def tt : TT := mkTI Try.prog
theorem tt_ok : tt.ok Try.prog := fun _ _ h => h
set_option maxRecDepth 20000
theorem mixed : Try.prog.follows .mixedOrders = true := by kernel_rfl
def i64 (n : Int) : AV := .lit (.int .i64 n)
end Go.Proofs.Ytjndgegfonhhfaa
