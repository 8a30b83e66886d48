import Derived.Test.YtnlpcbdmllpddaaGreatTka
import Derived.Test.YtnlpcbdmllpddaaGreatTkb
import Derived.Test.YtnlpcbdmllpddaaGreatTkc
import Derived.Test.YtnlpcbdmllpddaaGreatTkd
import Derived.Test.YtnlpcbdmllpddaaGreatTke
import Derived.Test.YtnlpcbdmllpddaaGreatTkf
import Derived.Test.YtnlpcbdmllpddaaGreatTkg
import Derived.Test.YtnlpcbdmllpddaaGreatTkh
import Derived.Test.YtnlpcbdmllpddaaGreatTki
import Derived.Test.YtnlpcbdmllpddaaGreatTkj
section
/- A keeper that moves is awake: a closed call, run. -/
namespace Go.Proofs.YtnlpcbdmllpddaaGreat
open Go SE
theorem look_awake21 : lookX tblR 10 = none := by kernel_rfl
theorem run_awake21 : runH Tryz.prog tblR tt 2000 40 10 [] (hO 0 []) sayT = .ok () := by kernel_rfl
theorem awake21_sp : Sp Tryz.prog 10 [] (hO 0 []) (fun v _ => v = .lit (.bool true)) :=
  (runH_top tt_ok mixed tblR_ok 2000 40 _ _ _ _ _ look_awake21 run_awake21).mono fun _ _ hh => sayT_spec hh
end Go.Proofs.YtnlpcbdmllpddaaGreat
end
