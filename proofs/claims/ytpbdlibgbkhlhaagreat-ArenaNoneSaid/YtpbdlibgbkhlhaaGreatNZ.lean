/- ArenaNone: what the row says of the program's text, further. -/
import Derived.Test.YtpbdlibgbkhlhaaGreatNY
namespace Go.Proofs.YtpbdlibgbkhlhaaGreat
open Go
theorem arena_recurses : (Rows.arenaNoneRow.recurses == Tryz.prog.recurses 5) = true := by kernel_rfl
theorem arena_named : (Rows.arenaNoneRow.named == Tryz.prog.varsNamed 5) = true := by kernel_rfl
end Go.Proofs.YtpbdlibgbkhlhaaGreat
