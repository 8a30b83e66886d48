import Derived.Test.YtnlpcbdmllpddaaGreatTsa
import Derived.Test.YtnlpcbdmllpddaaGreatTsb
import Derived.Test.YtnlpcbdmllpddaaGreatTsc
import Derived.Test.YtnlpcbdmllpddaaGreatTsd
import Derived.Test.YtnlpcbdmllpddaaGreatTse
import Derived.Test.YtnlpcbdmllpddaaGreatTsf
import Derived.Test.YtnlpcbdmllpddaaGreatTsg
import Derived.Test.YtnlpcbdmllpddaaGreatTsh
import Derived.Test.YtnlpcbdmllpddaaGreatTsi
import Derived.Test.YtnlpcbdmllpddaaGreatTsj
import Derived.Test.YtnlpcbdmllpddaaGreatTsk
import Derived.Test.YtnlpcbdmllpddaaGreatTsl
import Derived.Test.YtnlpcbdmllpddaaGreatTsm
import Derived.Test.YtnlpcbdmllpddaaGreatTsn
import Derived.Test.YtnlpcbdmllpddaaGreatTso
import Derived.Test.YtnlpcbdmllpddaaGreatTsp
import Derived.Test.YtnlpcbdmllpddaaGreatTsq
section
/- A closed call, run: fusee/scan.Step. -/
namespace Go.Proofs.YtnlpcbdmllpddaaGreat
open Go SE
set_option maxRecDepth 100000
noncomputable section
theorem sSG7_look : lookX tblR 40 = none := by kernel_rfl
theorem sSG7_run : runH Tryz.prog tblR tt 2000 40 40 [.ptr 0 0, i64 0, sSG6V] (hO sSG6M sSG6O) (told sSG7I) = .ok (vmap (atL sSG7I) sSG7V, sSG7O.map fun o => some (omap (atL sSG7I) o)) := by kernel_rfl
theorem sSG7_sp : Sp Tryz.prog 40 [.ptr 0 0, i64 0, sSG6V] (hO 1 [packed sSG6M sSG6O]) (fun v h => v = sSG7V ∧ h = hO 1 [packed sSG7M sSG7O]) :=
  stageP tt_ok mixed tblR_ok 2000 40 sSG6M sSG6O sSG7M sSG7I sSG7V sSG7O sSG7_look sSG7_run (by kernel_rfl) (by kernel_rfl) (by kernel_rfl)
end
end Go.Proofs.YtnlpcbdmllpddaaGreat
end
