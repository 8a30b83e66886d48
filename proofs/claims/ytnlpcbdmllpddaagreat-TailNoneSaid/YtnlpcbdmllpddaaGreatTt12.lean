import Derived.Test.YtnlpcbdmllpddaaGreatTt0
import Derived.Test.YtnlpcbdmllpddaaGreatTt1
import Derived.Test.YtnlpcbdmllpddaaGreatTt2
import Derived.Test.YtnlpcbdmllpddaaGreatTt3
import Derived.Test.YtnlpcbdmllpddaaGreatTt4
import Derived.Test.YtnlpcbdmllpddaaGreatTt5
import Derived.Test.YtnlpcbdmllpddaaGreatTt6
import Derived.Test.YtnlpcbdmllpddaaGreatTt7
import Derived.Test.YtnlpcbdmllpddaaGreatTt8
import Derived.Test.YtnlpcbdmllpddaaGreatTt9
import Derived.Test.YtnlpcbdmllpddaaGreatTt10
import Derived.Test.YtnlpcbdmllpddaaGreatTt11
section
/- A closed call, run: fusee/tail.Step. -/
namespace Go.Proofs.YtnlpcbdmllpddaaGreat
open Go SE
set_option maxRecDepth 100000
noncomputable section
theorem sSD1_look : lookX tblR 33 = none := by kernel_rfl
theorem sSD1_run : runH Tryz.prog tblR tt 2000 40 33 [.ptr 0 0, i64 0, .agg (frL [i64 5, str es, str es, str es] nilS)] (hO sSBM sSBO) (told sSD1I) = .ok (vmap (atL sSD1I) sSD1V, sSD1O.map fun o => some (omap (atL sSD1I) o)) := by kernel_rfl
theorem sSD1_sp : Sp Tryz.prog 33 [.ptr 0 0, i64 0, .agg (frL [i64 5, str es, str es, str es] nilS)] (hO 1 [packed sSBM sSBO]) (fun v h => v = sSD1V ∧ h = hO 1 [packed sSD1M sSD1O]) :=
  stageP tt_ok mixed tblR_ok 2000 40 sSBM sSBO sSD1M sSD1I sSD1V sSD1O sSD1_look sSD1_run (by kernel_rfl) (by kernel_rfl) (by kernel_rfl)
end
end Go.Proofs.YtnlpcbdmllpddaaGreat
end
