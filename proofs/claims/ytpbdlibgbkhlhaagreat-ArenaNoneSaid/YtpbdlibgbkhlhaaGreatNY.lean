/- ArenaNone: what the row says of the program's text. -/
import Derived.Test.YtpbdlibgbkhlhaaGreatRows
import Derived.JoinedOf
namespace Go.Proofs.YtpbdlibgbkhlhaaGreat
open Go
theorem arena_inPlace : (Rows.arenaNoneRow.inPlace == Tryz.prog.inPlace 5) = true := by kernel_rfl
theorem arena_unfollowed : (Rows.arenaNoneRow.unfollowed == Tryz.prog.unfollowed 5) = true := by kernel_rfl
end Go.Proofs.YtpbdlibgbkhlhaaGreat
