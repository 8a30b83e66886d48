import Derived.Test.YtnlpcbdmllpddaaGreatTt0
import Derived.Test.YtnlpcbdmllpddaaGreatTt1
import Derived.Test.YtnlpcbdmllpddaaGreatTt2
import Derived.Test.YtnlpcbdmllpddaaGreatTt3
import Derived.Test.YtnlpcbdmllpddaaGreatTt4
import Derived.Test.YtnlpcbdmllpddaaGreatTt5
import Derived.Test.YtnlpcbdmllpddaaGreatTt6
import Derived.Test.YtnlpcbdmllpddaaGreatTt7
import Derived.Test.YtnlpcbdmllpddaaGreatTt8
import Derived.Test.YtnlpcbdmllpddaaGreatTt9
import Derived.Test.YtnlpcbdmllpddaaGreatTt10
import Derived.Test.YtnlpcbdmllpddaaGreatTt11
import Derived.Test.YtnlpcbdmllpddaaGreatTt12
import Derived.Test.YtnlpcbdmllpddaaGreatTt13
section
/- A closed call, run: fusee/tail.Step. -/
namespace Go.Proofs.YtnlpcbdmllpddaaGreat
open Go SE
set_option maxRecDepth 100000
noncomputable section
theorem sSD2_look : lookX tblR 33 = none := by kernel_rfl
theorem sSD2_run : runH Tryz.prog tblR tt 2000 40 33 [.ptr 0 0, i64 0, sSD1V] (hO sSD1M sSD1O) (told sSD2I) = .ok (vmap (atL sSD2I) sSD2V, sSD2O.map fun o => some (omap (atL sSD2I) o)) := by kernel_rfl
theorem sSD2_sp : Sp Tryz.prog 33 [.ptr 0 0, i64 0, sSD1V] (hO 1 [packed sSD1M sSD1O]) (fun v h => v = sSD2V ∧ h = hO 1 [packed sSD2M sSD2O]) :=
  stageP tt_ok mixed tblR_ok 2000 40 sSD1M sSD1O sSD2M sSD2I sSD2V sSD2O sSD2_look sSD2_run (by kernel_rfl) (by kernel_rfl) (by kernel_rfl)
end
end Go.Proofs.YtnlpcbdmllpddaaGreat
end
