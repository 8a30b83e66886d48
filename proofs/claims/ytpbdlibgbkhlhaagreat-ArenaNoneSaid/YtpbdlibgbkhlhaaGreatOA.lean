/- ArenaNone: all that the row says of the program's text. -/
import Derived.Test.YtpbdlibgbkhlhaaGreatNZ
namespace Go.Proofs.YtpbdlibgbkhlhaaGreat
open Go
theorem arena_facts : joinedFacts Tryz.prog 5 Tryz.f5 Rows.arenaNoneSpec Rows.arenaNoneRow = true := by
  unfold joinedFacts
  rw [arena_inPlace, arena_unfollowed, arena_recurses, arena_named]
  kernel_rfl
end Go.Proofs.YtpbdlibgbkhlhaaGreat
