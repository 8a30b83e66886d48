import Derived.Test.YtnlpcbdmllpddaaGreatTt0
import Derived.Test.YtnlpcbdmllpddaaGreatTt1
import Derived.Test.YtnlpcbdmllpddaaGreatTt2
import Derived.Test.YtnlpcbdmllpddaaGreatTt3
import Derived.Test.YtnlpcbdmllpddaaGreatTt4
import Derived.Test.YtnlpcbdmllpddaaGreatTt5
import Derived.Test.YtnlpcbdmllpddaaGreatTt6
import Derived.Test.YtnlpcbdmllpddaaGreatTt7
import Derived.Test.YtnlpcbdmllpddaaGreatTt8
import Derived.Test.YtnlpcbdmllpddaaGreatTt9
import Derived.Test.YtnlpcbdmllpddaaGreatTt10
import Derived.Test.YtnlpcbdmllpddaaGreatTt11
import Derived.Test.YtnlpcbdmllpddaaGreatTt12
import Derived.Test.YtnlpcbdmllpddaaGreatTt13
import Derived.Test.YtnlpcbdmllpddaaGreatTt14
import Derived.Test.YtnlpcbdmllpddaaGreatTt15
import Derived.Test.YtnlpcbdmllpddaaGreatTt16
import Derived.Test.YtnlpcbdmllpddaaGreatTt17
import Derived.Test.YtnlpcbdmllpddaaGreatTt18
import Derived.Test.YtnlpcbdmllpddaaGreatTt19
section
/- A closed call, run: fusee/tail.Step. -/
namespace Go.Proofs.YtnlpcbdmllpddaaGreat
open Go SE
set_option maxRecDepth 100000
noncomputable section
theorem sSD5_look : lookX tblR 33 = none := by kernel_rfl
theorem sSD5_run : runH Tryz.prog tblR tt 2000 40 33 [.ptr 0 0, i64 0, sSD4V] (hO sSD4M sSD4O) (told sSD5I) = .ok (vmap (atL sSD5I) sSD5V, sSD5O.map fun o => some (omap (atL sSD5I) o)) := by kernel_rfl
theorem sSD5_sp : Sp Tryz.prog 33 [.ptr 0 0, i64 0, sSD4V] (hO 1 [packed sSD4M sSD4O]) (fun v h => v = sSD5V ∧ h = hO 1 [packed sSD5M sSD5O]) :=
  stageP tt_ok mixed tblR_ok 2000 40 sSD4M sSD4O sSD5M sSD5I sSD5V sSD5O sSD5_look sSD5_run (by kernel_rfl) (by kernel_rfl) (by kernel_rfl)
end
end Go.Proofs.YtnlpcbdmllpddaaGreat
end
