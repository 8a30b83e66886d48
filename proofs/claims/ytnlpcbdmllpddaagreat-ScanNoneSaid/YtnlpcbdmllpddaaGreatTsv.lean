import Derived.Test.YtnlpcbdmllpddaaGreatTsa
import Derived.Test.YtnlpcbdmllpddaaGreatTsb
import Derived.Test.YtnlpcbdmllpddaaGreatTsc
import Derived.Test.YtnlpcbdmllpddaaGreatTsd
import Derived.Test.YtnlpcbdmllpddaaGreatTse
import Derived.Test.YtnlpcbdmllpddaaGreatTsf
import Derived.Test.YtnlpcbdmllpddaaGreatTsg
import Derived.Test.YtnlpcbdmllpddaaGreatTsh
import Derived.Test.YtnlpcbdmllpddaaGreatTsi
import Derived.Test.YtnlpcbdmllpddaaGreatTsj
import Derived.Test.YtnlpcbdmllpddaaGreatTsk
import Derived.Test.YtnlpcbdmllpddaaGreatTsl
import Derived.Test.YtnlpcbdmllpddaaGreatTsm
import Derived.Test.YtnlpcbdmllpddaaGreatTsn
import Derived.Test.YtnlpcbdmllpddaaGreatTso
import Derived.Test.YtnlpcbdmllpddaaGreatTsp
import Derived.Test.YtnlpcbdmllpddaaGreatTsq
import Derived.Test.YtnlpcbdmllpddaaGreatTsr
import Derived.Test.YtnlpcbdmllpddaaGreatTss
import Derived.Test.YtnlpcbdmllpddaaGreatTst
import Derived.Test.YtnlpcbdmllpddaaGreatTsu
import Derived.Test.YtnlpcbdmllpddaaGreatRows
import Derived.JoinedOf
section
/- ScanNone: what the row says of the program's text. -/
namespace Go.Proofs.YtnlpcbdmllpddaaGreat
open Go
theorem scan_inPlace : (Rows.scanNoneRow.inPlace == Tryz.prog.inPlace 8) = true := by kernel_rfl
theorem scan_unfollowed : (Rows.scanNoneRow.unfollowed == Tryz.prog.unfollowed 8) = true := by kernel_rfl
end Go.Proofs.YtnlpcbdmllpddaaGreat
end
