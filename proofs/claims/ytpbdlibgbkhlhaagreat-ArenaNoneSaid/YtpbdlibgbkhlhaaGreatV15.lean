/- What is asked, in plain words. -/
import Derived.Test.YtpbdlibgbkhlhaaGreatV14
namespace Go.Proofs.YtpbdlibgbkhlhaaGreat.SE
open Go
/-- A value into which the kernel does not look. -/
noncomputable def hid {α : Type} (a : α) : {b : α // b = a} := Classical.choice ⟨⟨a, rfl⟩⟩
noncomputable def hide {α : Type} (a : α) : α := (hid a).1
theorem hide_eq {α : Type} (a : α) : hide a = a := (hid a).2
/-- A proposition into which the kernel does not look. -/
noncomputable def Hd (p : Prop) : Prop := hide p
theorem hd_iff {p : Prop} : Hd p ↔ p := by unfold Hd; rw [hide_eq]
theorem cP_iff {b : Bool} {x y : Prop} : cP b x y ↔ (b = true → x) ∧ (b = false → y) := by cases b <;> simp [cP]
theorem unit_ex {p : Unit → Prop} : (∃ y, p y) ↔ p () := ⟨fun ⟨_, h⟩ => h, fun h => ⟨(), h⟩⟩
theorem unit_all {p : Unit → Prop} : (∀ y, p y) ↔ p () := ⟨fun h => h (), fun h _ => h⟩
theorem I64_iff {z : Int} : I64 z ↔ -9223372036854775808 ≤ z ∧ z ≤ 9223372036854775807 := Iff.rfl
end Go.Proofs.YtpbdlibgbkhlhaaGreat.SE
