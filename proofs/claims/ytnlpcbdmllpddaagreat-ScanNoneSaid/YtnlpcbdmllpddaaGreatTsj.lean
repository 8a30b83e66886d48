import Derived.Test.YtnlpcbdmllpddaaGreatTsa
import Derived.Test.YtnlpcbdmllpddaaGreatTsb
import Derived.Test.YtnlpcbdmllpddaaGreatTsc
import Derived.Test.YtnlpcbdmllpddaaGreatTsd
import Derived.Test.YtnlpcbdmllpddaaGreatTse
import Derived.Test.YtnlpcbdmllpddaaGreatTsf
import Derived.Test.YtnlpcbdmllpddaaGreatTsg
import Derived.Test.YtnlpcbdmllpddaaGreatTsh
import Derived.Test.YtnlpcbdmllpddaaGreatTsi
section
/- A closed call, run: fusee/point.Step. -/
namespace Go.Proofs.YtnlpcbdmllpddaaGreat
open Go SE
set_option maxRecDepth 100000
noncomputable section
theorem sSE4_look : lookX tblR 35 = none := by kernel_rfl
theorem sSE4_run : runH Tryz.prog tblR tt 2000 40 35 [.ptr 0 0, i64 0, sSE3V] (hO sSE3M sSE3O) (told sSE4I) = .ok (vmap (atL sSE4I) sSE4V, sSE4O.map fun o => some (omap (atL sSE4I) o)) := by kernel_rfl
theorem sSE4_sp : Sp Tryz.prog 35 [.ptr 0 0, i64 0, sSE3V] (hO 1 [packed sSE3M sSE3O]) (fun v h => v = sSE4V ∧ h = hO 1 [packed sSE4M sSE4O]) :=
  stageP tt_ok mixed tblR_ok 2000 40 sSE3M sSE3O sSE4M sSE4I sSE4V sSE4O sSE4_look sSE4_run (by kernel_rfl) (by kernel_rfl) (by kernel_rfl)
end
end Go.Proofs.YtnlpcbdmllpddaaGreat
end
