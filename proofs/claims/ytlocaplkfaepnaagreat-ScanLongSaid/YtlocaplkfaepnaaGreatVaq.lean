import Derived.Test.YtlocaplkfaepnaaGreatVaa
import Derived.Test.YtlocaplkfaepnaaGreatVab
import Derived.Test.YtlocaplkfaepnaaGreatVac
import Derived.Test.YtlocaplkfaepnaaGreatVad
import Derived.Test.YtlocaplkfaepnaaGreatVae
import Derived.Test.YtlocaplkfaepnaaGreatVaf
import Derived.Test.YtlocaplkfaepnaaGreatVag
import Derived.Test.YtlocaplkfaepnaaGreatVah
import Derived.Test.YtlocaplkfaepnaaGreatVai
import Derived.Test.YtlocaplkfaepnaaGreatVaj
import Derived.Test.YtlocaplkfaepnaaGreatVak
import Derived.Test.YtlocaplkfaepnaaGreatVal
import Derived.Test.YtlocaplkfaepnaaGreatVam
import Derived.Test.YtlocaplkfaepnaaGreatVan
import Derived.Test.YtlocaplkfaepnaaGreatVao
import Derived.Test.YtlocaplkfaepnaaGreatVap
section
/- ScanLong: all that the row says of the program's text. -/
namespace Go.Proofs.YtlocaplkfaepnaaGreat
open Go
theorem scanL_facts : joinedFacts Tryz.prog 7 Tryz.f7 Rows.scanLongSpec Rows.scanLongRow = true := by
  unfold joinedFacts
  rw [scanL_inPlace, scanL_unfollowed, scanL_recurses, scanL_named]
  kernel_rfl
end Go.Proofs.YtlocaplkfaepnaaGreat
end
