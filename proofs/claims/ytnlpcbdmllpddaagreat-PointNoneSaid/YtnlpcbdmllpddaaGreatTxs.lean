import Derived.Test.YtnlpcbdmllpddaaGreatTxa
import Derived.Test.YtnlpcbdmllpddaaGreatTxb
import Derived.Test.YtnlpcbdmllpddaaGreatTxc
import Derived.Test.YtnlpcbdmllpddaaGreatTxd
import Derived.Test.YtnlpcbdmllpddaaGreatTxe
import Derived.Test.YtnlpcbdmllpddaaGreatTxf
import Derived.Test.YtnlpcbdmllpddaaGreatTxg
import Derived.Test.YtnlpcbdmllpddaaGreatTxh
import Derived.Test.YtnlpcbdmllpddaaGreatTxi
import Derived.Test.YtnlpcbdmllpddaaGreatTxj
import Derived.Test.YtnlpcbdmllpddaaGreatTxk
import Derived.Test.YtnlpcbdmllpddaaGreatTxl
import Derived.Test.YtnlpcbdmllpddaaGreatTxm
import Derived.Test.YtnlpcbdmllpddaaGreatTxn
import Derived.Test.YtnlpcbdmllpddaaGreatTxo
import Derived.Test.YtnlpcbdmllpddaaGreatTxp
import Derived.Test.YtnlpcbdmllpddaaGreatTxq
import Derived.Test.YtnlpcbdmllpddaaGreatTxr
section
/- PointNone: what the row says of the program's text, further. -/
namespace Go.Proofs.YtnlpcbdmllpddaaGreat
open Go
theorem point_recurses : (Rows.pointNoneRow.recurses == Tryz.prog.recurses 6) = true := by kernel_rfl
theorem point_named : (Rows.pointNoneRow.named == Tryz.prog.varsNamed 6) = true := by kernel_rfl
end Go.Proofs.YtnlpcbdmllpddaaGreat
end
