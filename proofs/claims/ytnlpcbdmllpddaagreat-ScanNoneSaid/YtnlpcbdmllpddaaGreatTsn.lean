import Derived.Test.YtnlpcbdmllpddaaGreatTsa
import Derived.Test.YtnlpcbdmllpddaaGreatTsb
import Derived.Test.YtnlpcbdmllpddaaGreatTsc
import Derived.Test.YtnlpcbdmllpddaaGreatTsd
import Derived.Test.YtnlpcbdmllpddaaGreatTse
import Derived.Test.YtnlpcbdmllpddaaGreatTsf
import Derived.Test.YtnlpcbdmllpddaaGreatTsg
import Derived.Test.YtnlpcbdmllpddaaGreatTsh
import Derived.Test.YtnlpcbdmllpddaaGreatTsi
import Derived.Test.YtnlpcbdmllpddaaGreatTsj
import Derived.Test.YtnlpcbdmllpddaaGreatTsk
import Derived.Test.YtnlpcbdmllpddaaGreatTsl
import Derived.Test.YtnlpcbdmllpddaaGreatTsm
section
/- A closed call, run: fusee/point.Step. -/
namespace Go.Proofs.YtnlpcbdmllpddaaGreat
open Go SE
set_option maxRecDepth 100000
noncomputable section
theorem sSF4_look : lookX tblR 35 = none := by kernel_rfl
theorem sSF4_run : runH Tryz.prog tblR tt 2000 40 35 [.ptr 0 0, i64 0, sSF3V] (hO sSF3M sSF3O) (told sSF4I) = .ok (vmap (atL sSF4I) sSF4V, sSF4O.map fun o => some (omap (atL sSF4I) o)) := by kernel_rfl
theorem sSF4_sp : Sp Tryz.prog 35 [.ptr 0 0, i64 0, sSF3V] (hO 1 [packed sSF3M sSF3O]) (fun v h => v = sSF4V ∧ h = hO 1 [packed sSF4M sSF4O]) :=
  stageP tt_ok mixed tblR_ok 2000 40 sSF3M sSF3O sSF4M sSF4I sSF4V sSF4O sSF4_look sSF4_run (by kernel_rfl) (by kernel_rfl) (by kernel_rfl)
end
end Go.Proofs.YtnlpcbdmllpddaaGreat
end
