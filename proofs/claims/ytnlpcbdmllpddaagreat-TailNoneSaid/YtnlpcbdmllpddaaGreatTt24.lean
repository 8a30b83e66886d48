import Derived.Test.YtnlpcbdmllpddaaGreatTt0
import Derived.Test.YtnlpcbdmllpddaaGreatTt1
import Derived.Test.YtnlpcbdmllpddaaGreatTt2
import Derived.Test.YtnlpcbdmllpddaaGreatTt3
import Derived.Test.YtnlpcbdmllpddaaGreatTt4
import Derived.Test.YtnlpcbdmllpddaaGreatTt5
import Derived.Test.YtnlpcbdmllpddaaGreatTt6
import Derived.Test.YtnlpcbdmllpddaaGreatTt7
import Derived.Test.YtnlpcbdmllpddaaGreatTt8
import Derived.Test.YtnlpcbdmllpddaaGreatTt9
import Derived.Test.YtnlpcbdmllpddaaGreatTt10
import Derived.Test.YtnlpcbdmllpddaaGreatTt11
import Derived.Test.YtnlpcbdmllpddaaGreatTt12
import Derived.Test.YtnlpcbdmllpddaaGreatTt13
import Derived.Test.YtnlpcbdmllpddaaGreatTt14
import Derived.Test.YtnlpcbdmllpddaaGreatTt15
import Derived.Test.YtnlpcbdmllpddaaGreatTt16
import Derived.Test.YtnlpcbdmllpddaaGreatTt17
import Derived.Test.YtnlpcbdmllpddaaGreatTt18
import Derived.Test.YtnlpcbdmllpddaaGreatTt19
import Derived.Test.YtnlpcbdmllpddaaGreatTt20
import Derived.Test.YtnlpcbdmllpddaaGreatTt21
import Derived.Test.YtnlpcbdmllpddaaGreatTt22
import Derived.Test.YtnlpcbdmllpddaaGreatTt23
section
/- A closed call, run: fusee/tail.Step. -/
namespace Go.Proofs.YtnlpcbdmllpddaaGreat
open Go SE
set_option maxRecDepth 100000
noncomputable section
theorem sSD7_look : lookX tblR 33 = none := by kernel_rfl
theorem sSD7_run : runH Tryz.prog tblR tt 2000 40 33 [.ptr 0 0, i64 0, sSD6V] (hO sSD6M sSD6O) (told sSD7I) = .ok (vmap (atL sSD7I) sSD7V, sSD7O.map fun o => some (omap (atL sSD7I) o)) := by kernel_rfl
theorem sSD7_sp : Sp Tryz.prog 33 [.ptr 0 0, i64 0, sSD6V] (hO 1 [packed sSD6M sSD6O]) (fun v h => v = sSD7V ∧ h = hO 1 [packed sSD7M sSD7O]) :=
  stageP tt_ok mixed tblR_ok 2000 40 sSD6M sSD6O sSD7M sSD7I sSD7V sSD7O sSD7_look sSD7_run (by kernel_rfl) (by kernel_rfl) (by kernel_rfl)
end
end Go.Proofs.YtnlpcbdmllpddaaGreat
end
