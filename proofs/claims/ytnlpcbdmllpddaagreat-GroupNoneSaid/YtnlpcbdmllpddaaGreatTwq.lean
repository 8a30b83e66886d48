import Derived.Test.YtnlpcbdmllpddaaGreatTwa
import Derived.Test.YtnlpcbdmllpddaaGreatTwb
import Derived.Test.YtnlpcbdmllpddaaGreatTwc
import Derived.Test.YtnlpcbdmllpddaaGreatTwd
import Derived.Test.YtnlpcbdmllpddaaGreatTwe
import Derived.Test.YtnlpcbdmllpddaaGreatTwf
import Derived.Test.YtnlpcbdmllpddaaGreatTwg
import Derived.Test.YtnlpcbdmllpddaaGreatTwh
import Derived.Test.YtnlpcbdmllpddaaGreatTwi
import Derived.Test.YtnlpcbdmllpddaaGreatTwj
import Derived.Test.YtnlpcbdmllpddaaGreatTwk
import Derived.Test.YtnlpcbdmllpddaaGreatTwl
import Derived.Test.YtnlpcbdmllpddaaGreatTwm
import Derived.Test.YtnlpcbdmllpddaaGreatTwn
import Derived.Test.YtnlpcbdmllpddaaGreatTwo
import Derived.Test.YtnlpcbdmllpddaaGreatTwp
import Derived.Test.YtnlpcbdmllpddaaGreatRows
import Derived.JoinedOf
section
/- GroupNone: what the row says of the program's text. -/
namespace Go.Proofs.YtnlpcbdmllpddaaGreat
open Go
theorem group_inPlace : (Rows.groupNoneRow.inPlace == Tryz.prog.inPlace 7) = true := by kernel_rfl
theorem group_unfollowed : (Rows.groupNoneRow.unfollowed == Tryz.prog.unfollowed 7) = true := by kernel_rfl
end Go.Proofs.YtnlpcbdmllpddaaGreat
end
