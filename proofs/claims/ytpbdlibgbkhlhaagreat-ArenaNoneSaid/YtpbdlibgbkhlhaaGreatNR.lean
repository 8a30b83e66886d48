/- The functions that closed runs do not step through. -/
import Derived.Test.YtpbdlibgbkhlhaaGreatNQ
import Derived.Test.YtpbdlibgbkhlhaaGreatNU
namespace Go.Proofs.YtpbdlibgbkhlhaaGreat
open Go SE
theorem xok_nil {P : Program} : XOk' P [] := fun g T h => by cases h
theorem xok_cons {P : Program} {f : FuncId} {T : XFn} {r : XTbl} (h1 : ∀ args h v h', T args h = some (v, h') → SpE P f args h (fun v1 h1 => v1 = v ∧ h1 = h')) (h2 : XOk' P r) : XOk' P ((f, T) :: r) := fun g T' hl args h v h' hv => by
  simp only [lookX] at hl
  cases hb : Nat.beq f g <;> rw [hb] at hl
  · exact h2 g T' hl args h v h' hv
  · simp only [cond_true, Option.some.injEq] at hl
    subst hl
    rw [← Nat.eq_of_beq_eq_true hb]
    exact h1 args h v h' hv
def cmpG : XFn := fun args h => match args with
  | [.lit (.string a), .lit (.string b)] => some (.lit (.int .i64 (Lib.compareBytes a.data.toList b.data.toList)), h)
  | _ => none
theorem cmpG_ok {args : List AV} {h h' : Heap} {v : AV} {K : AV → Heap → Prop} (hg : cmpG args h = some (v, h')) (hq : K v h') : cmpX args h K := by
  unfold cmpG at hg
  unfold cmpX
  split at hg
  · cases hg
    simp only [cmpM, hide_eq]
    exact hq
  · cases hg
noncomputable def tbl0 : XTbl := [(271, stepX1), (152, loadG .u64), (193, storeG .u64), (216, addG .u64), (225, addG .i64), (253, loadG .u32), (292, storeG .u32), (192, casG .u64), (282, cmpG)]
theorem ext_load64 : IsExt Tryz.prog 152 (Extern.Atomic.loadT (.int .u64)) := ⟨Tryz.f152, by kernel_rfl, by kernel_rfl, by kernel_rfl, by kernel_rfl, by kernel_rfl⟩
theorem ext_load32 : IsExt Tryz.prog 253 (Extern.Atomic.loadT (.int .u32)) := ⟨Tryz.f253, by kernel_rfl, by kernel_rfl, by kernel_rfl, by kernel_rfl, by kernel_rfl⟩
theorem ext_store64 : IsExt Tryz.prog 193 Extern.Atomic.storeT := ⟨Tryz.f193, by kernel_rfl, by kernel_rfl, by kernel_rfl, by kernel_rfl, by kernel_rfl⟩
theorem ext_store32 : IsExt Tryz.prog 292 Extern.Atomic.storeT := ⟨Tryz.f292, by kernel_rfl, by kernel_rfl, by kernel_rfl, by kernel_rfl, by kernel_rfl⟩
theorem ext_addu64 : IsExt Tryz.prog 216 (Extern.Atomic.update (Op.intArith .add) .u64 true) := ⟨Tryz.f216, by kernel_rfl, by kernel_rfl, by kernel_rfl, by kernel_rfl, by kernel_rfl⟩
theorem ext_addi64 : IsExt Tryz.prog 225 (Extern.Atomic.update (Op.intArith .add) .i64 true) := ⟨Tryz.f225, by kernel_rfl, by kernel_rfl, by kernel_rfl, by kernel_rfl, by kernel_rfl⟩
theorem ext_cas64 : IsExt Tryz.prog 192 (Extern.Atomic.casT (.int .u64)) := ⟨Tryz.f192, by kernel_rfl, by kernel_rfl, by kernel_rfl, by kernel_rfl, by kernel_rfl⟩
theorem ext_cmp : IsExt Tryz.prog 282 Extern.BytealgCompare.compare := ⟨Tryz.f282, by kernel_rfl, by kernel_rfl, by kernel_rfl, by kernel_rfl, by kernel_rfl⟩

theorem tbl0_ok : XOk' Tryz.prog tbl0 :=
  xok_cons (fun _ _ _ _ hv => .inl (stepX1_ok hv)) <|
  xok_cons (fun _ _ _ _ hv => .inr (loadX_ok _ _ _ ext_load64 (loadG_ok hv ⟨rfl, rfl⟩))) <|
  xok_cons (fun _ _ _ _ hv => .inr (storeX_ok _ _ _ ext_store64 (storeG_ok hv ⟨rfl, rfl⟩))) <|
  xok_cons (fun _ _ _ _ hv => .inr (addX_ok _ _ _ ext_addu64 (addG_ok hv ⟨rfl, rfl⟩))) <|
  xok_cons (fun _ _ _ _ hv => .inr (addX_ok _ _ _ ext_addi64 (addG_ok hv ⟨rfl, rfl⟩))) <|
  xok_cons (fun _ _ _ _ hv => .inr (loadX_ok _ _ _ ext_load32 (loadG_ok hv ⟨rfl, rfl⟩))) <|
  xok_cons (fun _ _ _ _ hv => .inr (storeX_ok _ _ _ ext_store32 (storeG_ok hv ⟨rfl, rfl⟩))) <|
  xok_cons (fun _ _ _ _ hv => .inr (casX_ok _ _ _ ext_cas64 (casG_ok hv ⟨rfl, rfl⟩))) <|
  xok_cons (fun _ _ _ _ hv => .inr (cmpX_ok ext_cmp _ _ _ (cmpG_ok hv ⟨rfl, rfl⟩))) xok_nil
/-- All of them. -/
noncomputable def tblG : XTbl := (198, onceX tbl0 (runH Tryz.prog tbl0 tt 2000 30)) :: tbl0
theorem tblG_ok : XOk' Tryz.prog tblG := xok_cons (fun _ _ _ _ hv => .inl (onceX_ok (runH_top tt_ok mixed tbl0_ok 2000 30) hv)) tbl0_ok
end Go.Proofs.YtpbdlibgbkhlhaaGreat
