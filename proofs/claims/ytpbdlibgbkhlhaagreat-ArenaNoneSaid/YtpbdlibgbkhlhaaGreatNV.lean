/- A small arena is awake: a closed call, run. -/
import Derived.Test.YtpbdlibgbkhlhaaGreatNR
namespace Go.Proofs.YtpbdlibgbkhlhaaGreat
open Go SE
def sayT : AV → Heap → Rs Unit := fun v _ => match v with
  | .lit (.bool true) => .ok ()
  | _ => .no []
theorem sayT_spec {v : AV} {h : Heap} (hh : sayT v h = .ok ()) : v = .lit (.bool true) := by
  unfold sayT at hh
  split at hh
  · rfl
  · cases hh
theorem look_awake16 : lookX tblG 33 = none := by kernel_rfl
theorem run_awake16 : runH Tryz.prog tblG tt 2000 40 33 [] (hO 0 []) sayT = .ok () := by kernel_rfl
theorem awake16_sp : Sp Tryz.prog 33 [] (hO 0 []) (fun v _ => v = .lit (.bool true)) :=
  (runH_top tt_ok mixed tblG_ok 2000 40 _ _ _ _ _ look_awake16 run_awake16).mono fun _ _ hh => sayT_spec hh
end Go.Proofs.YtpbdlibgbkhlhaaGreat
