import Derived.Test.YtlocaplkfaepnaaGreatVaa
import Derived.Test.YtlocaplkfaepnaaGreatVab
import Derived.Test.YtlocaplkfaepnaaGreatVac
import Derived.Test.YtlocaplkfaepnaaGreatVad
import Derived.Test.YtlocaplkfaepnaaGreatVae
import Derived.Test.YtlocaplkfaepnaaGreatVaf
import Derived.Test.YtlocaplkfaepnaaGreatVag
import Derived.Test.YtlocaplkfaepnaaGreatVah
import Derived.Test.YtlocaplkfaepnaaGreatVai
import Derived.Test.YtlocaplkfaepnaaGreatVaj
import Derived.Test.YtlocaplkfaepnaaGreatVak
import Derived.Test.YtlocaplkfaepnaaGreatVal
import Derived.Test.YtlocaplkfaepnaaGreatVam
import Derived.Test.YtlocaplkfaepnaaGreatVan
import Derived.Test.YtlocaplkfaepnaaGreatRows
import Derived.JoinedOf
section
/- ScanLong: what the row says of the program's text. -/
namespace Go.Proofs.YtlocaplkfaepnaaGreat
open Go
theorem scanL_inPlace : (Rows.scanLongRow.inPlace == Tryz.prog.inPlace 7) = true := by kernel_rfl
theorem scanL_unfollowed : (Rows.scanLongRow.unfollowed == Tryz.prog.unfollowed 7) = true := by kernel_rfl
end Go.Proofs.YtlocaplkfaepnaaGreat
end
