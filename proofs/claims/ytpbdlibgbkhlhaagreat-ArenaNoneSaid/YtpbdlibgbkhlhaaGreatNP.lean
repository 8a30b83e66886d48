/- Once: the slow road, with any function. -/
import Derived.Test.YtpbdlibgbkhlhaaGreatNO
namespace Go.Proofs.YtpbdlibgbkhlhaaGreat
open Go
set_option maxRecDepth 100000 in
set_option maxHeartbeats 1600000 in
theorem slow_any (b off : Nat) (g : FuncId) (fa ca : Array Value) (w : World) (R : World → Prop) (hc : SE.Callable Tryz.prog g)
    (h0 : w.cell? ⟨b, off, none⟩ = some (.int .u32 0)) (h1 : w.cell? ⟨b, off + 1, none⟩ = some (.int .i32 0)) (f0 : w.frozen? ⟨b, off, none⟩ = false) (f1 : w.frozen? ⟨b, off + 1, none⟩ = false)
    (hf : Calls Tryz.prog g (fa ++ ca) (w.setCell ⟨b, off + 1, none⟩ (.int .i32 1)) fun e w' => (∃ u, e = .returned u) ∧ w'.cell? ⟨b, off, none⟩ = some (.int .u32 0) ∧ w'.frozen? ⟨b, off, none⟩ = false ∧
      w'.cell? ⟨b, off + 1, none⟩ = some (.int .i32 1) ∧ w'.frozen? ⟨b, off + 1, none⟩ = false ∧ R w') :
    Calls Tryz.prog 198 #[.pointer (some ⟨b, off, none⟩), .func (.func g) fa ca] w fun e w' => e = .returned (.tuple #[]) ∧ ∃ w2, R w2 ∧
      w' = (w2.drew.setCell ⟨b, off, none⟩ (.int .u32 1)).setCell ⟨b, off + 1, none⟩ (.int .i32 0) := by
  have hl := run_call_load (P := Tryz.prog) Tryz.func253 (by kernel_rfl) (by kernel_rfl) (by kernel_rfl) .u32 (by kernel_rfl) (w := w.setCell ⟨b, off + 1, none⟩ (.int .i32 1)) (a := ⟨b, off, none⟩) (x := 0) ((World.cell?_setCell_other _ ⟨b, off + 1, none⟩ ⟨b, off, none⟩ _ (by simp)).trans h0)
  have hnot : ∀ (x : Bool) (w : World), (Op.unary .not (.bool x)).run Tryz.prog w = .ok (.bool (!x)) w := fun _ _ => rfl
  have hrun := SE.callable_run hc
  go_enter_defers Tryz.func198, Tryz.ntmps198
  go_wp2_with (go_at_call 254; refine (lock_free ⟨b, off + 1, none⟩ _ (by go_simp) (by go_simp)).mono ?_; rintro e w' ⟨rfl, rfl⟩)
  go_wp2
  refine hf.mono ?_
  rintro e w' ⟨⟨u, rfl⟩, c0, z0, c1, z1, hR⟩
  go_wp2
  -- THE DOOR: two deferred calls, the last laid first
  refine leaves_cons (f := 256) (args := #[.pointer (some ⟨b, off, none⟩), .bool true]) (by simp) (by simp [go_sem]) ?_
  refine (store_deferred ⟨b, off, none⟩ (.int .u32 0) .returning _ c0 z0).mono ?_
  rintro e u' w'' ⟨rfl, rfl, rfl⟩
  refine leaves_cons (f := 255) (args := #[.pointer (some ⟨b, off + 1, none⟩)]) (by simp [settle]) (by simp [go_sem]) ?_
  refine (unlock_deferred ⟨b, off + 1, none⟩ _ _ ?_ ?_).mono ?_
  · refine (World.cell?_setCell_other _ ⟨b, off, none⟩ ⟨b, off + 1, none⟩ _ (by simp)).trans ?_
    rw [World.cell?_drew]; exact c1
  · simp [z1]
  rintro e u' w'' ⟨rfl, rfl, rfl⟩
  simp [Leaves, settle, results, Tryz.results198]
  exact ⟨w', hR, rfl⟩
end Go.Proofs.YtpbdlibgbkhlhaaGreat
