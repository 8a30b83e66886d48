/- ArenaNone: the call. -/
import Derived.Test.YtpbdlibgbkhlhaaGreatNV
namespace Go.Proofs.YtpbdlibgbkhlhaaGreat
open Go SE
def awakeX : XFn := fun args h => match args with
  | [] => some (.lit (.bool true), h)
  | _ => none
theorem awakeX_ok {f : FuncId} (ha : Sp Tryz.prog f [] (hO 0 []) (fun v _ => v = .lit (.bool true))) {args : List AV} {h h' : Heap} {v : AV} (hv : awakeX args h = some (v, h')) : Sp Tryz.prog f args h (fun v1 h1 => v1 = v ∧ h1 = h') := by
  unfold awakeX at hv
  split at hv
  · cases hv
    exact sp_plain h ha (fun _ _ hh => hh) rfl rfl
  · cases hv
noncomputable def tblA : XTbl := (33, awakeX) :: tblG
theorem tblA_ok : XOk' Tryz.prog tblA := xok_cons (fun _ _ _ _ hv => .inl (awakeX_ok awake16_sp hv)) tblG_ok
theorem look_arenaNone : lookX tblA 5 = none := by kernel_rfl
theorem run_arenaNone (t e : Int) : runH Tryz.prog tblA tt 2000 40 5 [.lit (.int .i64 t), .lit (.int .u64 e)] (hO 0 []) sayT = .ok () := by kernel_rfl
theorem arenaNone_sp (t e : Int) : Sp Tryz.prog 5 [.lit (.int .i64 t), .lit (.int .u64 e)] (hO 0 []) (fun v _ => v = .lit (.bool true)) :=
  (runH_top tt_ok mixed tblA_ok 2000 40 _ _ _ _ _ look_arenaNone (run_arenaNone t e)).mono fun _ _ hh => sayT_spec hh
end Go.Proofs.YtpbdlibgbkhlhaaGreat
