import Derived.Test.YtnlpcbdmllpddaaGreatTwa
import Derived.Test.YtnlpcbdmllpddaaGreatTwb
import Derived.Test.YtnlpcbdmllpddaaGreatTwc
import Derived.Test.YtnlpcbdmllpddaaGreatTwd
import Derived.Test.YtnlpcbdmllpddaaGreatTwe
import Derived.Test.YtnlpcbdmllpddaaGreatTwf
import Derived.Test.YtnlpcbdmllpddaaGreatTwg
import Derived.Test.YtnlpcbdmllpddaaGreatTwh
import Derived.Test.YtnlpcbdmllpddaaGreatTwi
import Derived.Test.YtnlpcbdmllpddaaGreatTwj
import Derived.Test.YtnlpcbdmllpddaaGreatTwk
import Derived.Test.YtnlpcbdmllpddaaGreatTwl
import Derived.Test.YtnlpcbdmllpddaaGreatTwm
import Derived.Test.YtnlpcbdmllpddaaGreatTwn
import Derived.Test.YtnlpcbdmllpddaaGreatTwo
import Derived.Test.YtnlpcbdmllpddaaGreatTwp
import Derived.Test.YtnlpcbdmllpddaaGreatTwq
section
/- GroupNone: what the row says of the program's text, further. -/
namespace Go.Proofs.YtnlpcbdmllpddaaGreat
open Go
theorem group_recurses : (Rows.groupNoneRow.recurses == Tryz.prog.recurses 7) = true := by kernel_rfl
theorem group_named : (Rows.groupNoneRow.named == Tryz.prog.varsNamed 7) = true := by kernel_rfl
end Go.Proofs.YtnlpcbdmllpddaaGreat
end
