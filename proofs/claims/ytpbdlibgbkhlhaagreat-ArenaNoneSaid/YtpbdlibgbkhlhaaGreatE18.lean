/- From a call to the given row. -/
import Derived.Test.YtpbdlibgbkhlhaaGreatE17
import Derived.WalkKit
import Derived.ProofKit
import Derived.OpenShut
import Derived.Below
import Derived.Carry
namespace Go.Proofs.YtpbdlibgbkhlhaaGreat.SE
open Go
open Go.ChangeShapes Go.WideShapes Go.ChangeAt Go.RowKit

theorem Keeps.below {W w' : World} (h : Keeps (fun b => W.heap.size ≤ b) W w') : Below W.heap.size W w' := ⟨h.os, h.tape, h.output, h.size, fun k hk => h.block k (by omega)⟩
theorem rel_nil (W : World) : Rel (hO 0 []) (fun _ => none) (fun b => W.heap.size ≤ b) W :=
  ⟨fun _ _ => False, fun i o hi => by simp [hO, putO, Heap.get, HM.get_leaf] at hi, fun _ _ _ _ _ _ _ _ h => h.elim, fun _ _ _ _ h => h.elim, fun _ _ => rfl, fun _ h => h⟩
/-- A call over nothing, of plain values. -/
theorem Sp.calls {P : Program} {f : FuncId} {args : List AV} {K : AV → Heap → Prop} (hs : Sp P f args (hO 0 []) K) (W : World) {vs : Array Value} (hv : LRel (fun _ => none) args vs.toList) (hK : ∀ v h, K v h → v = .lit (.bool true)) :
    Calls P f vs W (fun e w' => e = .returned (.bool true) ∧ Below W.heap.size W w') := by
  refine (hs.2 _ _ W vs (rel_nil W) hv).mono ?_
  rintro e w' ⟨ρ', v, u, h', _, _, _, hu, rfl, hk, hKv⟩
  have := hK _ _ hKv
  subst this
  simp only [VRel] at hu
  subst hu
  exact ⟨rfl, hk.below⟩

/-- Every type can be read again, however the memory behind it has grown. -/
def readAgain (P : Program) (ts : List TypeId) : Bool := ts.all fun t => P.readableRec t && decide (t < P.types.size)
theorem trodAll_below {H : Type} {enc : TypeId × Value → H} {P : Program} (hl : laidOutB P = true) {W W' : World} (hb : Below W.heap.size W W') : ∀ {ts : List TypeId} {vs : List Value} {ds : List (DataW H)} {ps : List MemPlace}, readAgain P ts = true →
    DataW.TrodAll enc P W 0 (fun _ => true) true ts vs ds ps → (∀ x ∈ ps, x.block < W.heap.size) → DataW.TrodAll enc P W' 0 (fun b => decide (b < W.heap.size)) true ts vs ds ps
  | [], _, _, _, _, h, _ => by
    obtain ⟨rfl, rfl, rfl⟩ := trodAll_nil h
    exact trodAll_mk0
  | t :: ts, _, _, _, hr, h, hlt => by
    obtain ⟨v, vs1, d, ds1, a, b, rfl, rfl, rfl, h1, h2⟩ := trodAll_cons h
    simp only [readAgain, List.all_cons, Bool.and_eq_true, decide_eq_true_eq] at hr
    refine ⟨a, b, Below.trod hl hr.1.1 hr.1.2 h1 hb (fun x hx => hlt x (by simp [hx])), trodAll_below hl hb (by simpa [readAgain] using hr.2) h2 (fun x hx => hlt x (by simp [hx])), rfl⟩

theorem post_true {H : Type} {enc : TypeId × Value → H} {P : Program} {f : Func} {s : ChangeSpec} {apart handsOn : Bool} {W W' : World} {args : Array Value} {ds gs : List (DataW H)} {before : List MemPlace} {tb : TypeId}
    (hl : laidOutB P = true) (hr : readAgain P f.params.toList = true) (hW : DataW.Whole enc P f.params.toList s.vars apart W args.toList ds gs before) (hb : Below W.heap.size W W') (hvars : s.vars = [])
    (hrt : f.resultTypes = #[tb]) (ht : P.underlying tb = some .bool) (h1 : (s.fn H (ds ++ gs)).results = [.lit (.bool true)]) (h2 : (s.fn H (ds ++ gs)).args = ds) (h3 : (s.fn H (ds ++ gs)).vars = []) :
    s.post enc P f apart true handsOn false W args (.bool true) W' := by
  have hlt := hW.lt
  obtain ⟨p, q, hA, hV, hpq, hfz, hnd⟩ := hW
  refine ⟨ds, gs, before, [], p, [], ⟨p, q, hA, hV, hpq, hfz, hnd⟩, ?_, ?_, ?_, hb.frame _, fun h => by cases h⟩
  · rw [h1, hrt]
    exact trodAll_cons_mk (shut_bool ht _) trodAll_mk0
  · rw [h2]
    exact trodAll_below hl hb hr hA (fun x hx => hlt x (by rw [hpq]; simp [hx]))
  · rw [h3, hvars]; rfl
end Go.Proofs.YtpbdlibgbkhlhaaGreat.SE
