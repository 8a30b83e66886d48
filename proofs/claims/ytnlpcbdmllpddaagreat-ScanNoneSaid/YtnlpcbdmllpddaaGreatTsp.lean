import Derived.Test.YtnlpcbdmllpddaaGreatTsa
import Derived.Test.YtnlpcbdmllpddaaGreatTsb
import Derived.Test.YtnlpcbdmllpddaaGreatTsc
import Derived.Test.YtnlpcbdmllpddaaGreatTsd
import Derived.Test.YtnlpcbdmllpddaaGreatTse
import Derived.Test.YtnlpcbdmllpddaaGreatTsf
import Derived.Test.YtnlpcbdmllpddaaGreatTsg
import Derived.Test.YtnlpcbdmllpddaaGreatTsh
import Derived.Test.YtnlpcbdmllpddaaGreatTsi
import Derived.Test.YtnlpcbdmllpddaaGreatTsj
import Derived.Test.YtnlpcbdmllpddaaGreatTsk
import Derived.Test.YtnlpcbdmllpddaaGreatTsl
import Derived.Test.YtnlpcbdmllpddaaGreatTsm
import Derived.Test.YtnlpcbdmllpddaaGreatTsn
import Derived.Test.YtnlpcbdmllpddaaGreatTso
section
/- A closed call, run: fusee/point.Step. -/
namespace Go.Proofs.YtnlpcbdmllpddaaGreat
open Go SE
set_option maxRecDepth 100000
noncomputable section
theorem sSF5_look : lookX tblR 35 = none := by kernel_rfl
theorem sSF5_run : runH Tryz.prog tblR tt 2000 40 35 [.ptr 0 0, i64 0, sSF4V] (hO sSF4M sSF4O) (told sSF5I) = .ok (vmap (atL sSF5I) sSF5V, sSF5O.map fun o => some (omap (atL sSF5I) o)) := by kernel_rfl
theorem sSF5_sp : Sp Tryz.prog 35 [.ptr 0 0, i64 0, sSF4V] (hO 1 [packed sSF4M sSF4O]) (fun v h => v = sSF5V ∧ h = hO 1 [packed sSF5M sSF5O]) :=
  stageP tt_ok mixed tblR_ok 2000 40 sSF4M sSF4O sSF5M sSF5I sSF5V sSF5O sSF5_look sSF5_run (by kernel_rfl) (by kernel_rfl) (by kernel_rfl)
end
end Go.Proofs.YtnlpcbdmllpddaaGreat
end
