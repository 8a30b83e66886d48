import Derived.Test.YtlocaplkfaepnaaGreatVaa
import Derived.Test.YtlocaplkfaepnaaGreatVab
import Derived.Test.YtlocaplkfaepnaaGreatVac
import Derived.Test.YtlocaplkfaepnaaGreatVad
import Derived.Test.YtlocaplkfaepnaaGreatVae
import Derived.Test.YtlocaplkfaepnaaGreatVaf
import Derived.Test.YtlocaplkfaepnaaGreatVag
import Derived.Test.YtlocaplkfaepnaaGreatVah
import Derived.Test.YtlocaplkfaepnaaGreatVai
import Derived.Test.YtlocaplkfaepnaaGreatVaj
section
/- A closed call, run: fusee/point.Step. -/
namespace Go.Proofs.YtlocaplkfaepnaaGreat
open Go SE
set_option maxRecDepth 100000
noncomputable section
theorem sSE5_look : lookX tblR 55 = none := by kernel_rfl
theorem sSE5_run : runH Tryz.prog tblR tt 2000 40 55 [.ptr 0 0, i64 0, sSE4V] (hO sSE4M sSE4O) (told sSE5I) = .ok (vmap (atL sSE5I) sSE5V, sSE5O.map fun o => some (omap (atL sSE5I) o)) := by kernel_rfl
theorem sSE5_sp : Sp Tryz.prog 55 [.ptr 0 0, i64 0, sSE4V] (hO 1 [packed sSE4M sSE4O]) (fun v h => v = sSE5V ∧ h = hO 1 [packed sSE5M sSE5O]) :=
  stageP tt_ok mixed tblR_ok 2000 40 sSE4M sSE4O sSE5M sSE5I sSE5V sSE5O sSE5_look sSE5_run (by kernel_rfl) (by kernel_rfl) (by kernel_rfl)
end
end Go.Proofs.YtlocaplkfaepnaaGreat
end
