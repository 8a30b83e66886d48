/- A step of a sum, as an operation of closed runs. -/
import Derived.Test.YtpbdlibgbkhlhaaGreatNT
import Derived.Test.YtpbdlibgbkhlhaaGreatW3
namespace Go.Proofs.YtpbdlibgbkhlhaaGreat
open Go SE
theorem half {c : Int} (h : U32 c) : Int.tmod c 2 = c % 2 ∧ IntKind.u32.wrap (Int.tdiv c 2) = c / 2 := by
  have e : Int.tdiv c 2 = c / 2 := Int.tdiv_eq_ediv_of_nonneg h.1
  refine ⟨Int.tmod_eq_emod_of_nonneg h.1, ?_⟩
  rw [e]; exact wrap_u32_id (by unfold U32 at *; omega)
theorem stepVC_true (p : Int × Int) (hp : U32 p.1 ∧ 0 ≤ p.2 ∧ p.2 < 256) : stepVC p := by
  unfold stepVC
  have hw : IntKind.u32.wrap p.2 = p.2 := wrap_u32_id (by unfold U32; omega)
  have hx : ∀ a b, IntKind.u32.wrap ((BitVec.ofInt 32 a ^^^ BitVec.ofInt 32 b).toNat : Nat) = x32 a b := fun _ _ => rfl
  simp only [and_true, true_and, hw, hx]
  refine ⟨⟨0, by omega, rfl, rfl⟩, fun s hs => cP_intro (fun hb => ?_) (fun hb => ?_)⟩
  · have hb := of_decide_eq_true hb
    obtain ⟨h1, h2⟩ := half (bitsM_U (x32_U p.1 p.2) s)
    rw [h1, h2]
    refine ⟨by unfold I64; omega, by omega, cP_intro (fun hc => ?_) (fun hc => ?_)⟩
    · have hc : bitsM (x32 p.1 p.2) s % 2 = 0 := by simpa using hc
      exact ⟨by omega, s + 1, by omega, by omega, rfl, by simp [bitsM, bitM, hc]⟩
    · have hc : bitsM (x32 p.1 p.2) s % 2 ≠ 0 := by simpa using hc
      exact ⟨by omega, s + 1, by omega, by omega, rfl, by simp only [bitsM, bitM, hc, decide_false, cond_false]⟩
  · have : s = 8 := by have := of_decide_eq_false hb; omega
    subst this
    exact ⟨(), rfl⟩
theorem step_ok : CtrOk Tryz.prog 271 stepC := det_end tt_ok mixed TblOk.nil anStep 200 5 (fun _ => rfl) (fun _ => rfl) fun x hx => Eq.mp (stepVC_ok x) (stepVC_true x hx)

theorem det_sp {P : Program} {f : FuncId} {X : Type} {args : X → List AV} {pre : X → Prop} {ret : X → AV} (hC : CtrOk P f (det X args 0 (fun _ => []) pre ret 0 (fun _ => []))) (x : X) (hp : pre x) : Sp P f (args x) (hO 0 []) (fun v _ => v = ret x) :=
  (hC x hp).2.mono fun _ _ hh => by
    have ha : allOuts x (fun v _ => v = ret x) (det X args 0 (fun _ => []) pre ret 0 (fun _ => [])).outs := fun _ _ => rfl
    exact allOuts_ok ha hh
def stepX1 : XFn := fun args h => match args with
  | [.lit (.int .u32 c), .lit (.int .u8 x)] => bif decide (0 ≤ c) && decide (c < 4294967296) && decide (0 ≤ x) && decide (x < 256) then some (.lit (.int .u32 (stepM c x)), h) else none
  | _ => none
theorem stepX1_ok {args : List AV} {h h' : Heap} {v : AV} (hv : stepX1 args h = some (v, h')) : Sp Tryz.prog 271 args h (fun v1 h1 => v1 = v ∧ h1 = h') := by
  unfold stepX1 at hv
  split at hv
  · rename_i c x
    cases hc : (decide (0 ≤ c) && decide (c < 4294967296) && decide (0 ≤ x) && decide (x < 256)) <;> rw [hc] at hv
    · cases hv
    · cases hv
      simp only [Bool.and_eq_true, decide_eq_true_eq] at hc
      obtain ⟨⟨⟨h1, h2⟩, h3⟩, h4⟩ := hc
      have hs := det_sp step_ok (c, x) ⟨⟨h1, h2⟩, h3, h4⟩
      exact sp_plain h hs (fun v h' hh => hh) rfl rfl
  · cases hv
end Go.Proofs.YtpbdlibgbkhlhaaGreat
