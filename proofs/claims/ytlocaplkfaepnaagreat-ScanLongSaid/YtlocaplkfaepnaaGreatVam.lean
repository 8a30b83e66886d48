import Derived.Test.YtlocaplkfaepnaaGreatVaa
import Derived.Test.YtlocaplkfaepnaaGreatVab
import Derived.Test.YtlocaplkfaepnaaGreatVac
import Derived.Test.YtlocaplkfaepnaaGreatVad
import Derived.Test.YtlocaplkfaepnaaGreatVae
import Derived.Test.YtlocaplkfaepnaaGreatVaf
import Derived.Test.YtlocaplkfaepnaaGreatVag
import Derived.Test.YtlocaplkfaepnaaGreatVah
import Derived.Test.YtlocaplkfaepnaaGreatVai
import Derived.Test.YtlocaplkfaepnaaGreatVaj
import Derived.Test.YtlocaplkfaepnaaGreatVak
import Derived.Test.YtlocaplkfaepnaaGreatVal
section
/- A closed call, run: fusee/scan.Step. -/
namespace Go.Proofs.YtlocaplkfaepnaaGreat
open Go SE
set_option maxRecDepth 100000
noncomputable section
theorem sSG8_look : lookX tblR 36 = none := by kernel_rfl
theorem sSG8_run : runH Tryz.prog tblR tt 2000 40 36 [.ptr 0 0, i64 0, sSG7V] (openH 0 (hO 1 [packed sSG7M sSG7O]) (hO sSG7M sSG7O)) (told2 sSG8A sSG8B) = .ok (vmap (atL (atL sSG8A 0 :: sSG8B)) sSG8V, sSG8O.map fun o => some (omap (atL sSG8A) o), sSG8F.map fun o => some (omap (atL (atL sSG8A 0 :: sSG8B)) o), 63) := by kernel_rfl
theorem sSG8_sp : Sp Tryz.prog 36 [.ptr 0 0, i64 0, sSG7V] (hO 1 (packed sSG7M sSG7O :: [])) (fun v h => v = sSG8V ∧ h = hO 2 (packed sSG8M sSG8O :: sSG8F)) :=
  stageQ tt_ok mixed tblR_ok 2000 40 1 sSG7M sSG7O [] sSG8M 2 63 sSG8A sSG8B sSG8V sSG8O sSG8F sSG8_look sSG8_run (by kernel_rfl)
end
end Go.Proofs.YtlocaplkfaepnaaGreat
end
