/- Costs that come in. -/
import Derived.Test.YtjndgegfonhhfaaCB
import Derived.Test.YtjndgegfonhhfaaCD
import Derived.Test.YtjndgegfonhhfaaV13
import Derived.Test.YtjndgegfonhhfaaE18
namespace Go.Proofs.Ytjndgegfonhhfaa
open Go SE
open Go.ChangeShapes Go.WideShapes Go.ChangeAt Go.RowKit
theorem cells33 : Try.prog.cellsOf 33 = 6 := by kernel_rfl
theorem cells49 : Try.prog.cellsOf 49 = 5 := by kernel_rfl
theorem cells3 : Try.prog.cellsOf 3 = 1 := by kernel_rfl
theorem lit_i64 {n : Int} (h : (Lit.int .i64 n).wf = true) : I64 n := by
  simp [Lit.wf] at h
  have e : IntKind.i64.min = -9223372036854775808 := rfl
  rw [e] at h
  exact h
set_option maxRecDepth 20000 in
theorem trod_cost {H : Type} {enc : TypeId × Value → H} {w : World} {base : Nat} {spare : Nat → Bool} {held : Bool} {fuel : Nat} {cs : List Value} {x : DataW H × List MemPlace} (h : DataW.trod enc Try.prog w base spare held fuel 33 cs = some x) : ∃ l : Cst, cs = l.cells := by
  obtain ⟨hl, hf⟩ := trod_struct Try.underlying33 h
  rw [cells33] at hl
  match cs, hl with
  | [c0, c1, c2, c3, c4, c5], _ =>
    simp only [List.forall_mem_cons, cells3, List.drop_zero, List.take_succ_cons, List.take_zero, List.drop_succ_cons] at hf
    obtain ⟨⟨_, _, h0⟩, ⟨_, _, h1⟩, ⟨_, _, h2⟩, ⟨_, _, h3⟩, ⟨_, _, h4⟩, ⟨_, _, h5⟩, _⟩ := hf
    obtain ⟨n0, e0, _⟩ := DataW.trod_int Try.underlying3 h0
    obtain ⟨n1, e1, _⟩ := DataW.trod_int Try.underlying3 h1
    obtain ⟨n2, e2, _⟩ := DataW.trod_int Try.underlying3 h2
    obtain ⟨n3, e3, _⟩ := DataW.trod_int Try.underlying3 h3
    obtain ⟨n4, e4, _⟩ := DataW.trod_int Try.underlying3 h4
    obtain ⟨n5, e5, _⟩ := DataW.trod_int Try.underlying3 h5
    simp only [List.cons.injEq, and_true] at e0 e1 e2 e3 e4 e5
    subst e0 e1 e2 e3 e4 e5
    exact ⟨⟨n0, n1, n2, n3, n4, n5⟩, rfl⟩
set_option maxRecDepth 20000 in
theorem open_i64 {H : Type} {enc : TypeId × Value → H} {W : World} {v : Value} {d : DataW H} {ps : List MemPlace} (hok : Value.okWide Try.prog W .any 0 3 v) (h : DataW.Trod enc Try.prog W 0 (fun _ => true) true 3 v d ps) : ∃ n : Int, v = .int .i64 n := by
  obtain ⟨fuel, h⟩ := h
  obtain ⟨n, e, _⟩ := DataW.trod_int Try.underlying3 h
  refine ⟨n, ?_⟩
  unfold Value.okWide at hok
  simp only [Try.underlying3] at hok
  unfold Cell.okWide at hok
  simp only [Try.underlying3] at hok
  unfold Cell.ok at hok
  simp only [Try.underlying3] at hok
  cases v with
  | int k m =>
    simp [Value.cells] at e
    obtain ⟨rfl, rfl⟩ := e
    rfl
  | _ => first | exact hok.elim | (simp [Value.cells] at e; done) | (simp at hok; done)
end Go.Proofs.Ytjndgegfonhhfaa
