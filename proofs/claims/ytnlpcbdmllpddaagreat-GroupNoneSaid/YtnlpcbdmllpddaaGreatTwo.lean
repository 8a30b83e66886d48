import Derived.Test.YtnlpcbdmllpddaaGreatTwa
import Derived.Test.YtnlpcbdmllpddaaGreatTwb
import Derived.Test.YtnlpcbdmllpddaaGreatTwc
import Derived.Test.YtnlpcbdmllpddaaGreatTwd
import Derived.Test.YtnlpcbdmllpddaaGreatTwe
import Derived.Test.YtnlpcbdmllpddaaGreatTwf
import Derived.Test.YtnlpcbdmllpddaaGreatTwg
import Derived.Test.YtnlpcbdmllpddaaGreatTwh
import Derived.Test.YtnlpcbdmllpddaaGreatTwi
import Derived.Test.YtnlpcbdmllpddaaGreatTwj
import Derived.Test.YtnlpcbdmllpddaaGreatTwk
import Derived.Test.YtnlpcbdmllpddaaGreatTwl
import Derived.Test.YtnlpcbdmllpddaaGreatTwm
import Derived.Test.YtnlpcbdmllpddaaGreatTwn
section
/- A closed call, run: (*fusee/arena.Arena).Shelf. -/
namespace Go.Proofs.YtnlpcbdmllpddaaGreat
open Go SE
set_option maxRecDepth 100000
noncomputable section
theorem sSK1_look : lookX tblR 20 = none := by kernel_rfl
theorem sSK1_run : runH Tryz.prog tblR tt 2000 40 20 [.ptr 0 0] (openH 0 (hO 1 [packed sSJM sSJO]) (hO sSJM sSJO)) (told2 sSK1A sSK1B) = .ok (vmap (atL (atL sSK1A 0 :: sSK1B)) sSK1V, sSK1O.map fun o => some (omap (atL sSK1A) o), sSK1F.map fun o => some (omap (atL (atL sSK1A 0 :: sSK1B)) o), 97) := by kernel_rfl
theorem sSK1_sp : Sp Tryz.prog 20 [.ptr 0 0] (hO 1 (packed sSJM sSJO :: [])) (fun v h => v = sSK1V ∧ h = hO 3 (packed sSK1M sSK1O :: sSK1F)) :=
  stageQ tt_ok mixed tblR_ok 2000 40 1 sSJM sSJO [] sSK1M 3 97 sSK1A sSK1B sSK1V sSK1O sSK1F sSK1_look sSK1_run (by kernel_rfl)
end
end Go.Proofs.YtnlpcbdmllpddaaGreat
end
