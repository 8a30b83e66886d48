/- The row of FifoNone; links that come in. -/
import Derived.Test.YtagaecgkciablaaFD
import Derived.Test.YtagaecgkciablaaSE19
namespace Go.Proofs.Ytagaecgkciablaa
open Go SE
open Go.ChangeShapes Go.WideShapes Go.ChangeAt Go.RowKit
theorem cells28 : Try.prog.cellsOf 28 = 5 := by kernel_rfl
theorem cells3 : Try.prog.cellsOf 3 = 1 := by kernel_rfl
theorem cells9 : Try.prog.cellsOf 9 = 1 := by kernel_rfl
theorem cells26 : Try.prog.cellsOf 26 = 1 := by kernel_rfl
theorem cells4 : Try.prog.cellsOf 4 = 1 := by kernel_rfl
theorem trod_lk {H : Type} {enc : TypeId × Value → H} {w : World} {base : Nat} {spare : Nat → Bool} {held : Bool} {fuel : Nat} {cs : List Value} {x : DataW H × List MemPlace} (h : DataW.trod enc Try.prog w base spare held fuel 28 cs = some x) : ∃ l : Lk, cs = l.cells := by
  obtain ⟨hl, hf⟩ := trod_struct Try.underlying28 h
  rw [cells28] at hl
  match cs, hl with
  | [c0, c1, c2, c3, c4], _ =>
    simp only [List.forall_mem_cons, cells3, cells9, cells26, List.drop_zero, List.take_succ_cons, List.take_zero, List.drop_succ_cons] at hf
    obtain ⟨⟨_, _, h0⟩, ⟨_, _, h1⟩, ⟨_, _, h2⟩, ⟨_, _, h3⟩, ⟨_, _, h4⟩, _⟩ := hf
    obtain ⟨s0, e0, _⟩ := DataW.trod_string Try.underlying9 h0
    obtain ⟨n1, e1, _⟩ := DataW.trod_int Try.underlying26 h1
    obtain ⟨n2, e2, _⟩ := DataW.trod_int Try.underlying26 h2
    obtain ⟨n3, e3, _⟩ := DataW.trod_int Try.underlying3 h3
    obtain ⟨n4, e4, _⟩ := DataW.trod_int Try.underlying3 h4
    simp only [List.cons.injEq, and_true] at e0 e1 e2 e3 e4
    subst e0 e1 e2 e3 e4
    exact ⟨⟨s0, n1, n2, n3, n4⟩, rfl⟩
/-- A link that comes in. -/
theorem open_lk {H : Type} {enc : TypeId × Value → H} {W : World} {v : Value} {d : DataW H} {ps : List MemPlace} (hok : Value.okWide Try.prog W .any 0 28 v) (h : DataW.Trod enc Try.prog W 0 (fun _ => true) true 28 v d ps) : ∃ l : Lk, v = .agg l.cells.toArray := by
  obtain ⟨fuel, h⟩ := h
  unfold Value.okWide at hok
  simp only [Try.underlying28] at hok
  obtain ⟨cs, rfl, _⟩ := hok
  obtain ⟨l, hl⟩ := trod_lk h
  refine ⟨l, ?_⟩
  have : cs.toList = l.cells := hl
  rw [← this]

theorem none_run (k : ByteArray) (a b c d : Int) : ranTo (runF Try.prog tt 200 20 5 [.agg [.lit (.string k), .lit (.int .u64 a), .lit (.int .u64 b), .lit (.int .i64 c), .lit (.int .i64 d)]] (hO 0 [])) saysTrue = true := by kernel_rfl
theorem none_sp (l : Lk) : Sp Try.prog 5 [l.av] (hO 0 []) (fun v _ => v = .lit (.bool true)) :=
  (sp_run tt_ok mixed 200 20 (none_run l.key l.id l.ver l.line l.cls)).mono fun _ _ h => saysTrue_spec h
theorem lrel_lits (ρ : Ren) : ∀ vs : List Value, LRel ρ (vs.map .lit) vs
  | [] => .nil
  | v :: vs => .cons (by simp [VRel]) (lrel_lits ρ vs)

namespace FifoNone
theorem own : ownKnob Try.prog.godebug = none := by kernel_rfl
theorem laidOut : laidOutB Try.prog = true := by kernel_rfl
theorem again : readAgain Try.prog Try.f5.params.toList = true := by kernel_rfl

set_option maxRecDepth 100000 in
theorem lifted (os : Os) (started : os.Started) (H : Type) (enc : TypeId × Value → H) :
    ReturnsInHanded {} Try.checked os 5 .any (Rows.fifoNoneSpec.pre6 enc Try.prog Try.f5 Rows.fifoNoneRow.domain false) (Rows.fifoNoneSpec.post enc Try.prog Try.f5 false true false false) := by
  refine returnsInHanded_of_change (C := Try.checked) own started (by kernel_rfl) Try.func5
    (ChangeSpec.witness6 (enc := enc) (C := Try.checked) false ⟨#[], #[.agg #[.string ⟨#[]⟩, .int .u64 0, .int .u64 0, .int .i64 0, .int .i64 0]], []⟩ 8 (by kernel_rfl) (by kernel_rfl) (by kernel_rfl) (by kernel_rfl)) ?_
  intro W base args ds gs before hval0 hW hcnd _
  have hval : ∀ (j : Nat) t v, Try.f5.params[j]? = some t → args[j]? = some v → Value.okWide Try.prog W .any base t v := hval0
  have hW' := hW
  obtain ⟨p, q, hA0, hV, rfl, hfz, hnd⟩ := hW
  have hA : DataW.TrodAll enc Try.prog W 0 (fun _ => true) true Try.f5.params.toList args.toList ds p := hA0
  rw [Try.params5] at hA hval
  obtain ⟨v0, vs0, d0, ds0, p0, q0, hargs, rfl, rfl, h0, r0⟩ := trodAll_cons hA
  obtain ⟨rfl, rfl, rfl⟩ := trodAll_nil r0
  obtain rfl : args = #[v0] := by cases args; simp_all
  obtain ⟨rfl, rfl⟩ := trodVars_none hV
  obtain ⟨l, rfl⟩ := open_lk (hval 0 28 v0 rfl rfl) h0
  refine (Sp.calls (none_sp l) W (vs := #[.agg l.cells.toArray]) (.cons (by simp only [VRel, Lk.av]; exact ⟨_, rfl, lrel_lits _ _⟩) .nil) (fun _ _ h => h)).mono fun e W' ⟨he, hg⟩ => ?_
  subst he
  exact ⟨_, rfl, post_true laidOut again hW' hg rfl rfl Try.underlying4 rfl rfl rfl⟩

theorem over : Rows.fifoNoneRow.holds Try.pinned (OpenSpec.ofChange Rows.fifoNoneSpec) :=
  OpenClaim.holds_of_wide 5 Try.f5 rfl rfl rfl rfl rfl rfl rfl ⟨rfl, rfl, rfl, rfl, rfl⟩ rfl rfl rfl rfl rfl (by kernel_rfl) Try.func5 (by kernel_rfl)
    (of_decide_eq_true (by kernel_rfl)) (by unfold Func.isWrapper; rw [if_neg (of_decide_eq_false (by kernel_rfl))]; exact ⟨rfl, rfl⟩)
    (fun os started H enc _ => lifted os started H enc)

theorem proved : Rows.FifoNoneSaid := over
end FifoNone
end Go.Proofs.Ytagaecgkciablaa
