import Derived.Test.YtnlpcbdmllpddaaGreatTxa
import Derived.Test.YtnlpcbdmllpddaaGreatTxb
import Derived.Test.YtnlpcbdmllpddaaGreatTxc
import Derived.Test.YtnlpcbdmllpddaaGreatTxd
import Derived.Test.YtnlpcbdmllpddaaGreatTxe
import Derived.Test.YtnlpcbdmllpddaaGreatTxf
import Derived.Test.YtnlpcbdmllpddaaGreatTxg
import Derived.Test.YtnlpcbdmllpddaaGreatTxh
import Derived.Test.YtnlpcbdmllpddaaGreatTxi
import Derived.Test.YtnlpcbdmllpddaaGreatTxj
import Derived.Test.YtnlpcbdmllpddaaGreatTxk
import Derived.Test.YtnlpcbdmllpddaaGreatTxl
import Derived.Test.YtnlpcbdmllpddaaGreatTxm
import Derived.Test.YtnlpcbdmllpddaaGreatTxn
import Derived.Test.YtnlpcbdmllpddaaGreatTxo
section
/- A closed call, run: fusee/point.Step. -/
namespace Go.Proofs.YtnlpcbdmllpddaaGreat
open Go SE
set_option maxRecDepth 100000
noncomputable section
theorem sSL3_look : lookX tblP 35 = none := by kernel_rfl
theorem sSL3_run : runH Tryz.prog tblP tt 2000 40 35 [.ptr 0 0, i64 0, sSL2V] (hO sSL2M sSL2O) (told sSL3I) = .ok (vmap (atL sSL3I) sSL3V, sSL3O.map fun o => some (omap (atL sSL3I) o)) := by kernel_rfl
theorem sSL3_sp : Sp Tryz.prog 35 [.ptr 0 0, i64 0, sSL2V] (hO 1 [packed sSL2M sSL2O]) (fun v h => v = sSL3V ∧ h = hO 1 [packed sSL3M sSL3O]) :=
  stageP tt_ok mixed tblP_ok 2000 40 sSL2M sSL2O sSL3M sSL3I sSL3V sSL3O sSL3_look sSL3_run (by kernel_rfl) (by kernel_rfl) (by kernel_rfl)
end
end Go.Proofs.YtnlpcbdmllpddaaGreat
end
