import Derived.Test.YtnlpcbdmllpddaaGreatTt0
import Derived.Test.YtnlpcbdmllpddaaGreatTt1
import Derived.Test.YtnlpcbdmllpddaaGreatTt2
import Derived.Test.YtnlpcbdmllpddaaGreatTt3
import Derived.Test.YtnlpcbdmllpddaaGreatTt4
import Derived.Test.YtnlpcbdmllpddaaGreatTt5
import Derived.Test.YtnlpcbdmllpddaaGreatTt6
import Derived.Test.YtnlpcbdmllpddaaGreatTt7
import Derived.Test.YtnlpcbdmllpddaaGreatTt8
import Derived.Test.YtnlpcbdmllpddaaGreatTt9
import Derived.Test.YtnlpcbdmllpddaaGreatTt10
import Derived.Test.YtnlpcbdmllpddaaGreatTt11
import Derived.Test.YtnlpcbdmllpddaaGreatTt12
import Derived.Test.YtnlpcbdmllpddaaGreatTt13
import Derived.Test.YtnlpcbdmllpddaaGreatTt14
import Derived.Test.YtnlpcbdmllpddaaGreatTt15
import Derived.Test.YtnlpcbdmllpddaaGreatTt16
import Derived.Test.YtnlpcbdmllpddaaGreatTt17
section
/- A closed call, run: fusee/tail.Step. -/
namespace Go.Proofs.YtnlpcbdmllpddaaGreat
open Go SE
set_option maxRecDepth 100000
noncomputable section
theorem sSD4_look : lookX tblR 33 = none := by kernel_rfl
theorem sSD4_run : runH Tryz.prog tblR tt 2000 40 33 [.ptr 0 0, i64 0, sSD3V] (hO sSD3M sSD3O) (told sSD4I) = .ok (vmap (atL sSD4I) sSD4V, sSD4O.map fun o => some (omap (atL sSD4I) o)) := by kernel_rfl
theorem sSD4_sp : Sp Tryz.prog 33 [.ptr 0 0, i64 0, sSD3V] (hO 1 [packed sSD3M sSD3O]) (fun v h => v = sSD4V ∧ h = hO 1 [packed sSD4M sSD4O]) :=
  stageP tt_ok mixed tblR_ok 2000 40 sSD3M sSD3O sSD4M sSD4I sSD4V sSD4O sSD4_look sSD4_run (by kernel_rfl) (by kernel_rfl) (by kernel_rfl)
end
end Go.Proofs.YtnlpcbdmllpddaaGreat
end
