import Derived.Test.YtnlpcbdmllpddaaGreatTka
import Derived.Test.YtnlpcbdmllpddaaGreatTkb
import Derived.Test.YtnlpcbdmllpddaaGreatTkc
import Derived.Test.YtnlpcbdmllpddaaGreatTkd
import Derived.Test.YtnlpcbdmllpddaaGreatTke
import Derived.Test.YtnlpcbdmllpddaaGreatTkf
import Derived.Test.YtnlpcbdmllpddaaGreatTkg
import Derived.Test.YtnlpcbdmllpddaaGreatTkh
import Derived.Test.YtnlpcbdmllpddaaGreatTki
import Derived.Test.YtnlpcbdmllpddaaGreatTkj
import Derived.Test.YtnlpcbdmllpddaaGreatTkk
import Derived.Test.YtnlpcbdmllpddaaGreatTkl
import Derived.Test.YtnlpcbdmllpddaaGreatRows
import Derived.JoinedOf
section
/- KeeperNone: what the row says of the program's text. -/
namespace Go.Proofs.YtnlpcbdmllpddaaGreat
open Go
theorem keeper_inPlace : (Rows.keeperNoneRow.inPlace == Tryz.prog.inPlace 3) = true := by kernel_rfl
theorem keeper_unfollowed : (Rows.keeperNoneRow.unfollowed == Tryz.prog.unfollowed 3) = true := by kernel_rfl
end Go.Proofs.YtnlpcbdmllpddaaGreat
end
