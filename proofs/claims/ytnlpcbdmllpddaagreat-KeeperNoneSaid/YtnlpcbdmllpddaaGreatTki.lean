import Derived.Test.YtnlpcbdmllpddaaGreatTka
import Derived.Test.YtnlpcbdmllpddaaGreatTkb
import Derived.Test.YtnlpcbdmllpddaaGreatTkc
import Derived.Test.YtnlpcbdmllpddaaGreatTkd
import Derived.Test.YtnlpcbdmllpddaaGreatTke
import Derived.Test.YtnlpcbdmllpddaaGreatTkf
import Derived.Test.YtnlpcbdmllpddaaGreatTkg
import Derived.Test.YtnlpcbdmllpddaaGreatTkh
section
/- A closed call, run: fusee/arena.New. -/
namespace Go.Proofs.YtnlpcbdmllpddaaGreat
open Go SE
set_option maxRecDepth 100000
noncomputable section
theorem sSA_look : lookX tblR 15 = none := by kernel_rfl
theorem sSA_run : runH Tryz.prog tblR tt 2000 40 15 [i64 10, i64 1] (hO 0 []) (told sSAI) = .ok (vmap (atL sSAI) sSAV, sSAO.map fun o => some (omap (atL sSAI) o)) := by kernel_rfl
theorem sSA_sp : Sp Tryz.prog 15 [i64 10, i64 1] (hO 0 []) (fun v h => v = sSAV ∧ h = hO 1 [packed sSAM sSAO]) :=
  stageN (stage tt_ok mixed tblR_ok 2000 40 sSAM sSAI sSAV sSAO sSA_look sSA_run (by kernel_rfl)) (by kernel_rfl) (by kernel_rfl)
end
end Go.Proofs.YtnlpcbdmllpddaaGreat
end
