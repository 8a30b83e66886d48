import Derived.Test.YtnlpcbdmllpddaaGreatTka
import Derived.Test.YtnlpcbdmllpddaaGreatTkb
import Derived.Test.YtnlpcbdmllpddaaGreatTkc
import Derived.Test.YtnlpcbdmllpddaaGreatTkd
import Derived.Test.YtnlpcbdmllpddaaGreatTke
import Derived.Test.YtnlpcbdmllpddaaGreatTkf
import Derived.Test.YtnlpcbdmllpddaaGreatTkg
import Derived.Test.YtnlpcbdmllpddaaGreatTkh
import Derived.Test.YtnlpcbdmllpddaaGreatTki
import Derived.Test.YtnlpcbdmllpddaaGreatTkj
import Derived.Test.YtnlpcbdmllpddaaGreatTkk
import Derived.Test.YtnlpcbdmllpddaaGreatChecked
section
/- KeeperNone: the call. -/
namespace Go.Proofs.YtnlpcbdmllpddaaGreat
open Go SE
theorem kNoneVC_true (c : Cll) (p l r : Int) : kNoneVC c p l r := by
  unfold kNoneVC
  simp only [hd_iff, and_true, true_and, Nat.zero_add, Nat.add_zero, unit_ex, unit_all, true_implies, implies_true, Int.toNat_natCast, eq_self, and_self]
  refine ⟨c, ⟨rfl, rfl, rfl, rfl, rfl⟩, ⟨rfl, fun _ _ => rfl⟩, fun y hy => cP_intro (fun h => trivial) (fun h => ?_)⟩
  have hs : c.small := hy (by have := of_decide_eq_false h; omega)
  refine ⟨c, hs, ⟨rfl, rfl, rfl, rfl, rfl⟩, ⟨rfl, fun _ _ => rfl⟩, ?_, ?_⟩
  · refine ⟨c, ⟨rfl, rfl, rfl, rfl⟩, (p, l, r), ⟨⟨rfl, rfl⟩, rfl⟩, (0, c), ⟨rfl, rfl, rfl, rfl, rfl⟩, fun m hm => ?_⟩
    refine cP_intro (fun h => by simp at h) (fun _ => ?_)
    refine ⟨c, ⟨⟨rfl, rfl, rfl, rfl⟩, rfl, rfl, rfl, rfl⟩, (m, c), hm, ⟨rfl, rfl, rfl, rfl⟩, rfl, fun hk => ?_, fun hk => ?_⟩
    · exact cP_intro (fun _ => trivial) (fun _ => ⟨c, ⟨rfl, rfl, rfl, rfl⟩, rfl, rfl, rfl, rfl⟩)
    · exact cP_intro (fun _ => trivial) (fun h => by have hk : c.kind = 8 := hk; simp [hk] at h)
  · intro h1
    refine ⟨c, ⟨hs, h1⟩, ⟨rfl, rfl, rfl, rfl, rfl⟩, ⟨rfl, fun _ _ => rfl⟩, fun q => ?_⟩
    refine ⟨(p, l, r), ⟨⟨rfl, rfl⟩, rfl⟩, (0, ⟨c, q⟩), ⟨hs, h1⟩, ⟨rfl, rfl, rfl, rfl, rfl, rfl⟩, ⟨rfl, fun _ _ => rfl⟩, fun q1 m hm => ?_⟩
    refine cP_intro (fun h => by simp at h) (fun _ => ?_)
    refine ⟨⟨c, q, q1⟩, ⟨hs, h1⟩, ⟨⟨rfl, rfl, rfl, rfl, rfl⟩, rfl, rfl, rfl, rfl, rfl⟩, ⟨⟨rfl, fun _ _ => rfl⟩, rfl, fun _ _ => rfl⟩, (m, ⟨c, q⟩), ⟨hm, hs, h1⟩, ⟨rfl, rfl, rfl, rfl, rfl⟩, ⟨rfl, rfl, fun _ _ => rfl⟩, fun q2 hk => ?_, fun hk => ?_⟩
    · exact cP_intro (fun _ => trivial) (fun _ => ⟨⟨c, q2, q⟩, ⟨hs, h1⟩, ⟨⟨rfl, rfl, rfl, rfl, rfl⟩, rfl, rfl, rfl, rfl, rfl⟩, ⟨rfl, fun _ _ => rfl⟩, rfl, fun _ _ => rfl⟩)
    · exact cP_intro (fun _ => trivial) (fun h => by have hk : c.kind = 8 := hk; simp [hk] at h)
theorem tblK_ok : TblOk Tryz.prog tblK := .cons (ctrT_ok weight_ok) (.cons (ctrT_ok copy_ok) (.cons beginT_ok (.cons (ctrT_ok new_ok) (.cons sameTk_ok (.cons (ctrT_ok kSt_ok) (.cons syncT_ok (.cons (ctrT_ok (say_ok awake21_sp)) .nil)))))))
theorem kNone_sp (c : Cll) (p l r : Int) : Sp Tryz.prog 3 [i64 p, i64 l, i64 r, c.av 0] (hO 1 c.os) (fun v _ => v = boo true) :=
  wpF_ok tt_ok mixed tblK_ok noAn 400 6 _ _ _ _ (Eq.mp (kNoneVC_ok c p l r) (kNoneVC_true c p l r))
end Go.Proofs.YtnlpcbdmllpddaaGreat
end
section
/- A call that came in, opened. -/
namespace Go.Proofs.YtnlpcbdmllpddaaGreat
open Go SE
open Go.ChangeShapes Go.WideShapes Go.ChangeAt Go.RowKit
theorem own : ownKnob Tryz.prog.godebug = none := by kernel_rfl
theorem laidOut : laidOutB Tryz.prog = true := by kernel_rfl
theorem cells3 : Tryz.prog.cellsOf 3 = 1 := by kernel_rfl
theorem cells9 : Tryz.prog.cellsOf 9 = 1 := by kernel_rfl
theorem cells26 : Tryz.prog.cellsOf 22 = 1 := by kernel_rfl
theorem cells28 : Tryz.prog.cellsOf 24 = 5 := by kernel_rfl
theorem ct28 : Tryz.prog.cellTypes Tryz.prog.depth 24 = some [3, 9, 9, 9, 22] := by kernel_rfl
set_option maxRecDepth 20000 in
theorem trod_call {H : Type} {enc : TypeId × Value → H} {w : World} {base : Nat} {spare : Nat → Bool} {held : Bool} {fuel : Nat} {cs : List Value} {x : DataW H × List MemPlace} (h : DataW.trod enc Tryz.prog w base spare held fuel 24 cs = some x) :
    ∃ l : Mem, cs = l.cells ∧ ∃ fuel' y, DataW.trod enc Tryz.prog w base spare held fuel' 22 [.slice l.gp l.gn l.gc] = some y := by
  obtain ⟨hl, hf⟩ := trod_struct Tryz.underlying24 h
  rw [cells28] at hl
  match cs, hl with
  | [c0, c1, c2, c3, c4], _ =>
    simp only [List.forall_mem_cons, cells3, cells9, cells26, List.drop_zero, List.take_succ_cons, List.take_zero, List.drop_succ_cons] at hf
    obtain ⟨⟨_, _, h0⟩, ⟨_, _, h1⟩, ⟨_, _, h2⟩, ⟨_, _, h3⟩, ⟨_, _, h4⟩, _⟩ := hf
    obtain ⟨n0, e0, _⟩ := DataW.trod_int Tryz.underlying3 h0
    obtain ⟨s1, e1, _⟩ := DataW.trod_string Tryz.underlying9 h1
    obtain ⟨s2, e2, _⟩ := DataW.trod_string Tryz.underlying9 h2
    obtain ⟨s3, e3, _⟩ := DataW.trod_string Tryz.underlying9 h3
    simp only [List.cons.injEq, and_true] at e0 e1 e2 e3
    subst e0 e1 e2 e3
    rcases trod_slice Tryz.underlying22 h4 with e4 | ⟨a, len, cap, e4, _⟩
    · simp only [List.cons.injEq, and_true] at e4
      subst e4
      exact ⟨⟨n0, s1, s2, s3, none, 0, 0⟩, rfl, _, _, h4⟩
    · simp only [List.cons.injEq, and_true] at e4
      subst e4
      exact ⟨⟨n0, s1, s2, s3, some a, len, cap⟩, rfl, _, _, h4⟩
set_option maxRecDepth 20000 in
theorem open_call {H : Type} {enc : TypeId × Value → H} {W : World} {v : Value} {d : DataW H} {ps : List MemPlace} (hok : Value.okWide Tryz.prog W .any 0 24 v) (h : DataW.Trod enc Tryz.prog W 0 (fun _ => true) true 24 v d ps) :
    ∃ (s : Cll) (a : SE.Loc), (∀ (ρ : Ren) (i : Nat), ρ i = some a → VRel ρ (s.av i) v) ∧ ∀ (ρ : Ren) (S : Nat → Prop), OHolds ρ W (fun b => W.heap.size ≤ b) a S (.ro (rowG s)) := by
  obtain ⟨fuel, h⟩ := h
  unfold Value.okWide at hok
  simp only [Tryz.underlying24] at hok
  obtain ⟨cs, rfl, _, hr⟩ := hok
  obtain ⟨l, hl, fuel', y, h4⟩ := trod_call h
  obtain ⟨L⟩ := cs
  have hl : L = l.cells := hl
  subst hl
  have k4 : Cell.okWide Tryz.prog W .any 0 22 (.slice l.gp l.gn l.gc) := row_cell hr ct28 (i := 4) rfl rfl
  obtain ⟨z, c, n, a, _, _, _, hv, ho⟩ := open_cellZ (T := fun b => W.heap.size ≤ b) (f := Mem.cells) (m := 5) ⟨0, ByteArray.empty, ByteArray.empty, ByteArray.empty, none, 0, 0⟩ (fun _ => True) (fun _ => rfl) (by omega) Tryz.underlying22 cells28 k4 h4 (fun b hb => by omega)
    (fun fuel cs y h => by obtain ⟨l, e, _⟩ := trod_call h; exact ⟨l, trivial, e⟩)
  refine ⟨⟨l.kind, l.key, l.value, l.to, c, n⟩, a, fun ρ i hi => ?_, fun ρ S => ho ρ S⟩
  simp only [Cll.av, VRel]
  exact ⟨_, rfl, .cons rfl (.cons rfl (.cons rfl (.cons rfl (.cons (hv ρ i hi).2 .nil))))⟩
end Go.Proofs.YtnlpcbdmllpddaaGreat
end
