import Derived.Test.YtnlpcbdmllpddaaGreatTxa
import Derived.Test.YtnlpcbdmllpddaaGreatTxb
import Derived.Test.YtnlpcbdmllpddaaGreatTxc
import Derived.Test.YtnlpcbdmllpddaaGreatTxd
import Derived.Test.YtnlpcbdmllpddaaGreatTxe
import Derived.Test.YtnlpcbdmllpddaaGreatTxf
import Derived.Test.YtnlpcbdmllpddaaGreatTxg
import Derived.Test.YtnlpcbdmllpddaaGreatTxh
import Derived.Test.YtnlpcbdmllpddaaGreatTxi
import Derived.Test.YtnlpcbdmllpddaaGreatTxj
import Derived.Test.YtnlpcbdmllpddaaGreatTxk
import Derived.Test.YtnlpcbdmllpddaaGreatTxl
import Derived.Test.YtnlpcbdmllpddaaGreatTxm
import Derived.Test.YtnlpcbdmllpddaaGreatTxn
import Derived.Test.YtnlpcbdmllpddaaGreatTxo
import Derived.Test.YtnlpcbdmllpddaaGreatTxp
import Derived.Test.YtnlpcbdmllpddaaGreatTxq
import Derived.Test.YtnlpcbdmllpddaaGreatTxr
import Derived.Test.YtnlpcbdmllpddaaGreatTxs
section
/- PointNone: all that the row says of the program's text. -/
namespace Go.Proofs.YtnlpcbdmllpddaaGreat
open Go
theorem point_facts : joinedFacts Tryz.prog 6 Tryz.f6 Rows.pointNoneSpec Rows.pointNoneRow = true := by
  unfold joinedFacts
  rw [point_inPlace, point_unfollowed, point_recurses, point_named]
  kernel_rfl
end Go.Proofs.YtnlpcbdmllpddaaGreat
end
