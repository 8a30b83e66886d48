import Derived.Test.YtnlpcbdmllpddaaGreatTwa
import Derived.Test.YtnlpcbdmllpddaaGreatTwb
import Derived.Test.YtnlpcbdmllpddaaGreatTwc
import Derived.Test.YtnlpcbdmllpddaaGreatTwd
import Derived.Test.YtnlpcbdmllpddaaGreatTwe
import Derived.Test.YtnlpcbdmllpddaaGreatTwf
import Derived.Test.YtnlpcbdmllpddaaGreatTwg
import Derived.Test.YtnlpcbdmllpddaaGreatTwh
import Derived.Test.YtnlpcbdmllpddaaGreatTwi
section
/- A group's first step: contracts. -/
namespace Go.Proofs.YtnlpcbdmllpddaaGreat
open Go SE
noncomputable section
/-- A copy: of none, of some. -/
def copyC2 : Ctr := { X := Cll, args := fun c => [c.av 0], k := 1, os := Cll.os, pre := fun c => Hd c.small, outs := [
  { Y := Unit, post := fun c _ => Hd (c.gn = 0), ret := fun c _ => c.avN, m := 1, os := fun c _ => c.os },
  { Y := Unit, post := fun c _ => Hd (1 ≤ c.gn), ret := fun c _ => c.avW 1, m := 2, os := fun c _ => [.ro (rowG c), .room 24 (rowG c)] }] }
def goodT : WTr := fun args h K => match args with
  | [.agg [_, _, _, _, .slR _ _ _ _]] => ctrT goodA args h K
  | _ => pickT (ctrT goodW) (ctrT goodN) args h K
theorem goodT_ok (args : List AV) (h : Heap) (K : AV → Heap → Prop) (hq : goodT args h K) : Sp Tryz.prog 36 args h K := by
  unfold goodT at hq
  split at hq
  · exact ctrT_ok goodA_ok _ _ _ hq
  · exact pickT_ok (ctrT_ok goodW_ok) (ctrT_ok goodN_ok) _ _ _ hq
/-- A frame of which only the phase and the code are told. -/
def anyG (p g : Int) : AV := .agg [.one, .one, .one, .one, .one, i64 p, .one, .one, .one, .one, .one, .one, .one, .one, .one, .one, .one, .one, .one, .one, .one, .one, i64 g, .one, .one, .one, .one, .one]
/-- What a good call's first step, and a bad one's, leave. -/
def stG (c : Cll) (p g : Int) : Prop := g = goodM c ∧ (p = 7 ↔ goodM c ≠ 0)
def okG (Q : Int → Int → Prop) : AV → Heap → Prop := fun v h' => match v with
  | .agg [a0, a1, a2, a3, a4, .lit (.int .i64 p), a6, a7, a8, a9, a10, a11, a12, a13, a14, a15, a16, a17, a18, a19, a20, a21, .lit (.int .i64 g), a23, a24, a25, a26, a27] =>
    [a0, a1, a2, a3, a4, a6, a7, a8, a9, a10, a11, a12, a13, a14, a15, a16, a17, a18, a19, a20, a21, a23, a24, a25, a26, a27].all oneCell = true ∧ Hd (Q p g) ∧ (h'.get 0).isSome = true ∧ (h'.get 1).isSome = true
  | _ => False
theorem okG_leq {Q : Int → Int → Prop} {v : AV} {h' : Heap} (hk : okG Q v h') (k : Nat) (h2 : k ≤ 2) : ∃ p g, Q p g ∧ Leq k v h' (anyG p g) (hO k (List.replicate k (.abs trivO))) := by
  unfold okG at hk
  split at hk
  · rename_i p _ _ _ _ _ _ _ _ _ _ _ _ _ _ _ _ g _ _ _ _ _
    obtain ⟨hl, hQ, g0, g1⟩ := hk
    refine ⟨_, _, hd_iff.1 hQ, leq_triv (fun i hi => ?_) fun ρ ρ' u hv => ?_⟩
    · match i, hi with
      | 0, _ => exact g0
      | 1, _ => exact g1
      | i + 2, hi => omega
    · simp only [List.all_cons, List.all_nil, Bool.and_eq_true] at hl
      simp only [VRel, LRel, i64, anyG] at hv ⊢
      obtain ⟨vs, rfl, u0, l0, e0, r0, u1, l1, e1, r1, u2, l2, e2, r2, u3, l3, e3, r3, u4, l4, e4, r4, u5, l5, e5, r5, u6, l6, e6, r6, u7, l7, e7, r7, u8, l8, e8, r8, u9, l9, e9, r9, u10, l10, e10, r10, u11, l11, e11, r11, u12, l12, e12, r12, u13, l13, e13, r13, u14, l14, e14, r14, u15, l15, e15, r15, u16, l16, e16, r16, u17, l17, e17, r17, u18, l18, e18, r18, u19, l19, e19, r19, u20, l20, e20, r20, u21, l21, e21, r21, u22, l22, e22, r22, u23, l23, e23, r23, u24, l24, e24, r24, u25, l25, e25, r25, u26, l26, e26, r26, u27, l27, e27, r27, e28⟩ := hv
      obtain ⟨o0, o1, o2, o3, o4, o6, o7, o8, o9, o10, o11, o12, o13, o14, o15, o16, o17, o18, o19, o20, o21, o23, o24, o25, o26, o27, _⟩ := hl
      exact ⟨vs, rfl, _, _, e0, oneCell_spec o0 r0, _, _, e1, oneCell_spec o1 r1, _, _, e2, oneCell_spec o2 r2, _, _, e3, oneCell_spec o3 r3, _, _, e4, oneCell_spec o4 r4, _, _, e5, r5, _, _, e6, oneCell_spec o6 r6, _, _, e7, oneCell_spec o7 r7, _, _, e8, oneCell_spec o8 r8, _, _, e9, oneCell_spec o9 r9, _, _, e10, oneCell_spec o10 r10, _, _, e11, oneCell_spec o11 r11, _, _, e12, oneCell_spec o12 r12, _, _, e13, oneCell_spec o13 r13, _, _, e14, oneCell_spec o14 r14, _, _, e15, oneCell_spec o15 r15, _, _, e16, oneCell_spec o16 r16, _, _, e17, oneCell_spec o17 r17, _, _, e18, oneCell_spec o18 r18, _, _, e19, oneCell_spec o19 r19, _, _, e20, oneCell_spec o20 r20, _, _, e21, oneCell_spec o21 r21, _, _, e22, r22, _, _, e23, oneCell_spec o23 r23, _, _, e24, oneCell_spec o24 r24, _, _, e25, oneCell_spec o25 r25, _, _, e26, oneCell_spec o26 r26, _, _, e27, oneCell_spec o27 r27, e28⟩
  · exact hk.elim
def tblG7 : WTbl := [(45, cloneT), (36, goodT), (243, ctrT repC), (145, loadX .u64), (192, casX .u64)]
theorem tblG7_ok : TblOk Tryz.prog tblG7 := .cons cloneT_ok (.cons goodT_ok (.cons (ctrT_ok rep_ok) (.consX (fun _ _ _ hq => loadX_ok _ _ _ ext_load64 hq) (.consX (fun _ _ _ hq => casX_ok _ _ _ ext_cas64 hq) .nil))))
/-- The call of a frame that was begun: its members' groups are slices of nothing. -/
def CP.cll (x : CP) : Cll := { x.c with g := fun k => { x.c.g k with gp := x.p k, gn := 0, gc := 0 } }
end
end Go.Proofs.YtnlpcbdmllpddaaGreat
end
