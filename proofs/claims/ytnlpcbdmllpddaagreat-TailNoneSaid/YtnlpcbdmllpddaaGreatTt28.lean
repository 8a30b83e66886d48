import Derived.Test.YtnlpcbdmllpddaaGreatTt0
import Derived.Test.YtnlpcbdmllpddaaGreatTt1
import Derived.Test.YtnlpcbdmllpddaaGreatTt2
import Derived.Test.YtnlpcbdmllpddaaGreatTt3
import Derived.Test.YtnlpcbdmllpddaaGreatTt4
import Derived.Test.YtnlpcbdmllpddaaGreatTt5
import Derived.Test.YtnlpcbdmllpddaaGreatTt6
import Derived.Test.YtnlpcbdmllpddaaGreatTt7
import Derived.Test.YtnlpcbdmllpddaaGreatTt8
import Derived.Test.YtnlpcbdmllpddaaGreatTt9
import Derived.Test.YtnlpcbdmllpddaaGreatTt10
import Derived.Test.YtnlpcbdmllpddaaGreatTt11
import Derived.Test.YtnlpcbdmllpddaaGreatTt12
import Derived.Test.YtnlpcbdmllpddaaGreatTt13
import Derived.Test.YtnlpcbdmllpddaaGreatTt14
import Derived.Test.YtnlpcbdmllpddaaGreatTt15
import Derived.Test.YtnlpcbdmllpddaaGreatTt16
import Derived.Test.YtnlpcbdmllpddaaGreatTt17
import Derived.Test.YtnlpcbdmllpddaaGreatTt18
import Derived.Test.YtnlpcbdmllpddaaGreatTt19
import Derived.Test.YtnlpcbdmllpddaaGreatTt20
import Derived.Test.YtnlpcbdmllpddaaGreatTt21
import Derived.Test.YtnlpcbdmllpddaaGreatTt22
import Derived.Test.YtnlpcbdmllpddaaGreatTt23
import Derived.Test.YtnlpcbdmllpddaaGreatTt24
import Derived.Test.YtnlpcbdmllpddaaGreatTt25
import Derived.Test.YtnlpcbdmllpddaaGreatTt26
import Derived.Test.YtnlpcbdmllpddaaGreatTt27
section
/- TailNone: all that the row says of the program's text. -/
namespace Go.Proofs.YtnlpcbdmllpddaaGreat
open Go
theorem tail_facts : joinedFacts Tryz.prog 5 Tryz.f5 Rows.tailNoneSpec Rows.tailNoneRow = true := by
  unfold joinedFacts
  rw [tail_inPlace, tail_unfollowed, tail_recurses, tail_named]
  kernel_rfl
end Go.Proofs.YtnlpcbdmllpddaaGreat
end
