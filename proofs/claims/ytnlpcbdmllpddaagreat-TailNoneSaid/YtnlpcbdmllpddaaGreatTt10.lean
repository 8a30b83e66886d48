import Derived.Test.YtnlpcbdmllpddaaGreatTt0
import Derived.Test.YtnlpcbdmllpddaaGreatTt1
import Derived.Test.YtnlpcbdmllpddaaGreatTt2
import Derived.Test.YtnlpcbdmllpddaaGreatTt3
import Derived.Test.YtnlpcbdmllpddaaGreatTt4
import Derived.Test.YtnlpcbdmllpddaaGreatTt5
import Derived.Test.YtnlpcbdmllpddaaGreatTt6
import Derived.Test.YtnlpcbdmllpddaaGreatTt7
import Derived.Test.YtnlpcbdmllpddaaGreatTt8
import Derived.Test.YtnlpcbdmllpddaaGreatTt9
section
/- A closed call, run: fusee/fuseelaw18.Run. -/
namespace Go.Proofs.YtnlpcbdmllpddaaGreat
open Go SE
set_option maxRecDepth 100000
noncomputable section
theorem sSB_look : lookX tblR 80 = none := by kernel_rfl
theorem sSB_run : runH Tryz.prog tblR tt 2000 40 80 [.ptr 0 0, i64 0, .agg [i64 4, str es, str (bs [120]), str es, nilS]] (hO sSAM sSAO) (told sSBI) = .ok (vmap (atL sSBI) sSBV, sSBO.map fun o => some (omap (atL sSBI) o)) := by kernel_rfl
theorem sSB_sp : Sp Tryz.prog 80 [.ptr 0 0, i64 0, .agg [i64 4, str es, str (bs [120]), str es, nilS]] (hO 1 [packed sSAM sSAO]) (fun v h => v = sSBV ∧ h = hO 1 [packed sSBM sSBO]) :=
  stageP tt_ok mixed tblR_ok 2000 40 sSAM sSAO sSBM sSBI sSBV sSBO sSB_look sSB_run (by kernel_rfl) (by kernel_rfl) (by kernel_rfl)
end
end Go.Proofs.YtnlpcbdmllpddaaGreat
end
