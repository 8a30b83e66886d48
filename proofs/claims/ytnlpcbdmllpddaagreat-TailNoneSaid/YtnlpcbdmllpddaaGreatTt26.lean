import Derived.Test.YtnlpcbdmllpddaaGreatTt0
import Derived.Test.YtnlpcbdmllpddaaGreatTt1
import Derived.Test.YtnlpcbdmllpddaaGreatTt2
import Derived.Test.YtnlpcbdmllpddaaGreatTt3
import Derived.Test.YtnlpcbdmllpddaaGreatTt4
import Derived.Test.YtnlpcbdmllpddaaGreatTt5
import Derived.Test.YtnlpcbdmllpddaaGreatTt6
import Derived.Test.YtnlpcbdmllpddaaGreatTt7
import Derived.Test.YtnlpcbdmllpddaaGreatTt8
import Derived.Test.YtnlpcbdmllpddaaGreatTt9
import Derived.Test.YtnlpcbdmllpddaaGreatTt10
import Derived.Test.YtnlpcbdmllpddaaGreatTt11
import Derived.Test.YtnlpcbdmllpddaaGreatTt12
import Derived.Test.YtnlpcbdmllpddaaGreatTt13
import Derived.Test.YtnlpcbdmllpddaaGreatTt14
import Derived.Test.YtnlpcbdmllpddaaGreatTt15
import Derived.Test.YtnlpcbdmllpddaaGreatTt16
import Derived.Test.YtnlpcbdmllpddaaGreatTt17
import Derived.Test.YtnlpcbdmllpddaaGreatTt18
import Derived.Test.YtnlpcbdmllpddaaGreatTt19
import Derived.Test.YtnlpcbdmllpddaaGreatTt20
import Derived.Test.YtnlpcbdmllpddaaGreatTt21
import Derived.Test.YtnlpcbdmllpddaaGreatTt22
import Derived.Test.YtnlpcbdmllpddaaGreatTt23
import Derived.Test.YtnlpcbdmllpddaaGreatTt24
import Derived.Test.YtnlpcbdmllpddaaGreatTt25
import Derived.Test.YtnlpcbdmllpddaaGreatRows
import Derived.JoinedOf
section
/- TailNone: what the row says of the program's text. -/
namespace Go.Proofs.YtnlpcbdmllpddaaGreat
open Go
theorem tail_inPlace : (Rows.tailNoneRow.inPlace == Tryz.prog.inPlace 5) = true := by kernel_rfl
theorem tail_unfollowed : (Rows.tailNoneRow.unfollowed == Tryz.prog.unfollowed 5) = true := by kernel_rfl
end Go.Proofs.YtnlpcbdmllpddaaGreat
end
