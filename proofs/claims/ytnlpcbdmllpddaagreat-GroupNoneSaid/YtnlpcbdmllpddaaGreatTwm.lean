import Derived.Test.YtnlpcbdmllpddaaGreatTwa
import Derived.Test.YtnlpcbdmllpddaaGreatTwb
import Derived.Test.YtnlpcbdmllpddaaGreatTwc
import Derived.Test.YtnlpcbdmllpddaaGreatTwd
import Derived.Test.YtnlpcbdmllpddaaGreatTwe
import Derived.Test.YtnlpcbdmllpddaaGreatTwf
import Derived.Test.YtnlpcbdmllpddaaGreatTwg
import Derived.Test.YtnlpcbdmllpddaaGreatTwh
import Derived.Test.YtnlpcbdmllpddaaGreatTwi
import Derived.Test.YtnlpcbdmllpddaaGreatTwj
import Derived.Test.YtnlpcbdmllpddaaGreatTwk
import Derived.Test.YtnlpcbdmllpddaaGreatTwl
section
/- A closed call, run: fusee/group.Step. -/
namespace Go.Proofs.YtnlpcbdmllpddaaGreat
open Go SE
set_option maxRecDepth 100000
noncomputable section
theorem sSI8_look : lookX tblR 38 = none := by kernel_rfl
theorem sSI8_run : runH Tryz.prog tblR tt 2000 40 38 [.ptr 0 0, i64 0, sSI7X] (openH 0 (hO 3 (packed sSI7M sSI7O :: sSI7H)) (hO sSI7M sSI7O)) (told2 sSI8A sSI8B) = .ok (vmap (atL (atL sSI8A 0 :: sSI8B)) sSI8V, sSI8O.map fun o => some (omap (atL sSI8A) o), sSI8F.map fun o => some (omap (atL (atL sSI8A 0 :: sSI8B)) o), 211) := by kernel_rfl
theorem sSI8_sp : Sp Tryz.prog 38 [.ptr 0 0, i64 0, sSI7X] (hO 3 (packed sSI7M sSI7O :: sSI7H)) (fun v h => v = sSI8V ∧ h = hO 6 (packed sSI8M sSI8O :: sSI8F)) :=
  stageQ tt_ok mixed tblR_ok 2000 40 3 sSI7M sSI7O sSI7H sSI8M 6 211 sSI8A sSI8B sSI8V sSI8O sSI8F sSI8_look sSI8_run (by kernel_rfl)
end
end Go.Proofs.YtnlpcbdmllpddaaGreat
end
