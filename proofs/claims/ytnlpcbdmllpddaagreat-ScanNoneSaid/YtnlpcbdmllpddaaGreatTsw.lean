import Derived.Test.YtnlpcbdmllpddaaGreatTsa
import Derived.Test.YtnlpcbdmllpddaaGreatTsb
import Derived.Test.YtnlpcbdmllpddaaGreatTsc
import Derived.Test.YtnlpcbdmllpddaaGreatTsd
import Derived.Test.YtnlpcbdmllpddaaGreatTse
import Derived.Test.YtnlpcbdmllpddaaGreatTsf
import Derived.Test.YtnlpcbdmllpddaaGreatTsg
import Derived.Test.YtnlpcbdmllpddaaGreatTsh
import Derived.Test.YtnlpcbdmllpddaaGreatTsi
import Derived.Test.YtnlpcbdmllpddaaGreatTsj
import Derived.Test.YtnlpcbdmllpddaaGreatTsk
import Derived.Test.YtnlpcbdmllpddaaGreatTsl
import Derived.Test.YtnlpcbdmllpddaaGreatTsm
import Derived.Test.YtnlpcbdmllpddaaGreatTsn
import Derived.Test.YtnlpcbdmllpddaaGreatTso
import Derived.Test.YtnlpcbdmllpddaaGreatTsp
import Derived.Test.YtnlpcbdmllpddaaGreatTsq
import Derived.Test.YtnlpcbdmllpddaaGreatTsr
import Derived.Test.YtnlpcbdmllpddaaGreatTss
import Derived.Test.YtnlpcbdmllpddaaGreatTst
import Derived.Test.YtnlpcbdmllpddaaGreatTsu
import Derived.Test.YtnlpcbdmllpddaaGreatTsv
section
/- ScanNone: what the row says of the program's text, further. -/
namespace Go.Proofs.YtnlpcbdmllpddaaGreat
open Go
theorem scan_recurses : (Rows.scanNoneRow.recurses == Tryz.prog.recurses 8) = true := by kernel_rfl
theorem scan_named : (Rows.scanNoneRow.named == Tryz.prog.varsNamed 8) = true := by kernel_rfl
end Go.Proofs.YtnlpcbdmllpddaaGreat
end
