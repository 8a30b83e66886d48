import Derived.Test.YtnlpcbdmllpddaaGreatTka
import Derived.Test.YtnlpcbdmllpddaaGreatTkb
import Derived.Test.YtnlpcbdmllpddaaGreatTkc
import Derived.Test.YtnlpcbdmllpddaaGreatTkd
import Derived.Test.YtnlpcbdmllpddaaGreatTke
import Derived.Test.YtnlpcbdmllpddaaGreatTkf
import Derived.Test.YtnlpcbdmllpddaaGreatTkg
import Derived.Test.YtnlpcbdmllpddaaGreatTkh
import Derived.Test.YtnlpcbdmllpddaaGreatTki
import Derived.Test.YtnlpcbdmllpddaaGreatTkj
import Derived.Test.YtnlpcbdmllpddaaGreatTkk
import Derived.Test.YtnlpcbdmllpddaaGreatTkl
import Derived.Test.YtnlpcbdmllpddaaGreatTkm
import Derived.Test.YtnlpcbdmllpddaaGreatTkn
section
/- KeeperNone: all that the row says of the program's text. -/
namespace Go.Proofs.YtnlpcbdmllpddaaGreat
open Go
theorem keeper_facts : joinedFacts Tryz.prog 3 Tryz.f3 Rows.keeperNoneSpec Rows.keeperNoneRow = true := by
  unfold joinedFacts
  rw [keeper_inPlace, keeper_unfollowed, keeper_recurses, keeper_named]
  kernel_rfl
end Go.Proofs.YtnlpcbdmllpddaaGreat
end
