import Derived.Test.YtnlpcbdmllpddaaGreatTwa
import Derived.Test.YtnlpcbdmllpddaaGreatTwb
import Derived.Test.YtnlpcbdmllpddaaGreatTwc
import Derived.Test.YtnlpcbdmllpddaaGreatTwd
import Derived.Test.YtnlpcbdmllpddaaGreatTwe
import Derived.Test.YtnlpcbdmllpddaaGreatTwf
import Derived.Test.YtnlpcbdmllpddaaGreatTwg
import Derived.Test.YtnlpcbdmllpddaaGreatTwh
import Derived.Test.YtnlpcbdmllpddaaGreatTwi
import Derived.Test.YtnlpcbdmllpddaaGreatTwj
import Derived.Test.YtnlpcbdmllpddaaGreatTwk
import Derived.Test.YtnlpcbdmllpddaaGreatTwl
import Derived.Test.YtnlpcbdmllpddaaGreatTwm
import Derived.Test.YtnlpcbdmllpddaaGreatTwn
import Derived.Test.YtnlpcbdmllpddaaGreatTwo
import Derived.Test.YtnlpcbdmllpddaaGreatTwp
import Derived.Test.YtnlpcbdmllpddaaGreatTwq
import Derived.Test.YtnlpcbdmllpddaaGreatTwr
section
/- GroupNone: all that the row says of the program's text. -/
namespace Go.Proofs.YtnlpcbdmllpddaaGreat
open Go
theorem group_facts : joinedFacts Tryz.prog 7 Tryz.f7 Rows.groupNoneSpec Rows.groupNoneRow = true := by
  unfold joinedFacts
  rw [group_inPlace, group_unfollowed, group_recurses, group_named]
  kernel_rfl
end Go.Proofs.YtnlpcbdmllpddaaGreat
end
