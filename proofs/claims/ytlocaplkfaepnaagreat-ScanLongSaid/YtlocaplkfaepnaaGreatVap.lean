import Derived.Test.YtlocaplkfaepnaaGreatVaa
import Derived.Test.YtlocaplkfaepnaaGreatVab
import Derived.Test.YtlocaplkfaepnaaGreatVac
import Derived.Test.YtlocaplkfaepnaaGreatVad
import Derived.Test.YtlocaplkfaepnaaGreatVae
import Derived.Test.YtlocaplkfaepnaaGreatVaf
import Derived.Test.YtlocaplkfaepnaaGreatVag
import Derived.Test.YtlocaplkfaepnaaGreatVah
import Derived.Test.YtlocaplkfaepnaaGreatVai
import Derived.Test.YtlocaplkfaepnaaGreatVaj
import Derived.Test.YtlocaplkfaepnaaGreatVak
import Derived.Test.YtlocaplkfaepnaaGreatVal
import Derived.Test.YtlocaplkfaepnaaGreatVam
import Derived.Test.YtlocaplkfaepnaaGreatVan
import Derived.Test.YtlocaplkfaepnaaGreatVao
section
/- ScanLong: what the row says of the program's text, further. -/
namespace Go.Proofs.YtlocaplkfaepnaaGreat
open Go
theorem scanL_recurses : (Rows.scanLongRow.recurses == Tryz.prog.recurses 7) = true := by kernel_rfl
theorem scanL_named : (Rows.scanLongRow.named == Tryz.prog.varsNamed 7) = true := by kernel_rfl
end Go.Proofs.YtlocaplkfaepnaaGreat
end
