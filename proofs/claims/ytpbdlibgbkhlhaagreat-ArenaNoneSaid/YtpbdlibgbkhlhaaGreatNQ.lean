/- Once: as an operation of closed runs. -/
import Derived.Test.YtpbdlibgbkhlhaaGreatNP
import Derived.Test.YtpbdlibgbkhlhaaGreatW3
namespace Go.Proofs.YtpbdlibgbkhlhaaGreat
open Go SE
def isU0 (k : IntKind) (z : Int) (x : Option AV) : Bool := match x with
  | some (.lit (.int k' z')) => decide (k' = k) && decide (z' = z)
  | _ => false
theorem isU0_iff {k : IntKind} {z : Int} {x : Option AV} (h : isU0 k z x = true) : x = some (.lit (.int k z)) := by
  unfold isU0 at h
  split at h
  · simp only [Bool.and_eq_true, decide_eq_true_eq] at h
    obtain ⟨rfl, rfl⟩ := h; rfl
  · cases h
/-- The slow road of Once, the first time: the function is run. -/
def onceX (xt : XTbl) (run : RunG (AV × Heap)) : XFn := fun args h => match args with
  | [.ptr i o, .fn (.func g) first cap] => bif (lookX xt g).isNone && isU0 .u32 0 (cellAt h i o) && isU0 .i32 0 (cellAt h i (o + 1)) && (setCell h i o (.lit (.int .u32 1))).isSome then (match setCell h i (o + 1) (.lit (.int .i32 1)) with
    | some h1 => match run g (first ++ cap) h1 (fun v h => .ok (v, h)) with
      | .ok (_, h2) => bif isU0 .u32 0 (cellAt h2 i o) && isU0 .i32 1 (cellAt h2 i (o + 1)) && (setCell h2 i (o + 1) (.lit (.int .i32 0))).isSome then (match setCell h2 i o (.lit (.int .u32 1)) with
        | some h3 => match setCell h3 i (o + 1) (.lit (.int .i32 0)) with
          | some h4 => some (.tup [], h4)
          | none => none
        | none => none) else none
      | .no _ => none
    | none => none) else none
  | _ => none
theorem cell_at {h : Heap} {ρ : Ren} {T : Nat → Prop} {w : World} (hR : Rel h ρ T w) {i o : Nat} {b : SE.Loc} {k : IntKind} {z : Int} (hb : ρ i = some b) (hc : isU0 k z (cellAt h i o) = true) : w.cell? ⟨b.blk, b.base + o, none⟩ = some (.int k z) := by
  obtain ⟨b', hb', y, hy, hr⟩ := hR.cell (isU0_iff hc)
  obtain rfl : b' = b := Option.some.inj (hb'.symm.trans hb)
  simp only [VRel] at hr
  subst hr; exact hy
theorem put_at {h h' : Heap} {i o : Nat} {k : IntKind} {z : Int} (hs : setCell h i o (.lit (.int k z)) = some h') : putI h i o k z (fun x => x = h') := by unfold putI; rw [hs]
theorem onceX_ok {xt : XTbl} {run : RunG (AV × Heap)} (hr : ∀ g args h K a, lookX xt g = none → run g args h K = .ok a → Sp Tryz.prog g args h (fun v h' => K v h' = .ok a)) {args : List AV} {h h' : Heap} {v : AV} (ho : onceX xt run args h = some (v, h')) :
    Sp Tryz.prog 198 args h (fun v1 h1 => v1 = v ∧ h1 = h') := by
  unfold onceX at ho
  split at ho
  · rename_i i o g first cap
    cases hc : ((lookX xt g).isNone && isU0 .u32 0 (cellAt h i o) && isU0 .i32 0 (cellAt h i (o + 1)) && (setCell h i o (.lit (.int .u32 1))).isSome) <;> rw [hc] at ho
    · cases ho
    · simp only [cond_true] at ho
      simp only [Bool.and_eq_true, Option.isNone_iff_eq_none] at hc
      obtain ⟨⟨⟨hn, c0⟩, c1⟩, c2⟩ := hc
      split at ho
      · rename_i h1 hs1
        split at ho
        · rename_i v2 h2 hrun
          cases hc2 : (isU0 .u32 0 (cellAt h2 i o) && isU0 .i32 1 (cellAt h2 i (o + 1)) && (setCell h2 i (o + 1) (.lit (.int .i32 0))).isSome) <;> rw [hc2] at ho
          · cases ho
          · simp only [cond_true] at ho
            simp only [Bool.and_eq_true] at hc2
            obtain ⟨⟨d0, d1⟩, d2⟩ := hc2
            split at ho
            · rename_i h3 hs3
              split at ho
              · rename_i h4 hs4
                cases ho
                have hsp := hr _ _ _ _ _ hn hrun
                refine ⟨⟨_, Tryz.func198, by kernel_rfl, by kernel_rfl⟩, fun ρ T w vs hR hl => ?_⟩
                simp only [LRel] at hl
                obtain ⟨u0, _, hvs, hu0, u1, _, rfl, hu1, rfl⟩ := hl
                simp only [VRel] at hu0 hu1
                obtain ⟨b, hb, rfl⟩ := hu0
                obtain ⟨fa, ca, rfl, hfa, hca⟩ := hu1
                have hvs' := vs2 hvs
                rw [hvs']
                have e1 : b.base + (o + 1) = b.base + o + 1 := by omega
                obtain ⟨h1', f1, R1, n1, K1, rfl⟩ := putI_ok (P := Tryz.prog) hR (put_at hs1) hb
                -- the cell beside may be written as well
                have f0 : w.frozen? ⟨b.blk, b.base + o, none⟩ = false := by
                  obtain ⟨h5, hs5⟩ := Option.isSome_iff_exists.1 c2
                  exact hR.ownCell hs5 hb
                have g0 := cell_at hR hb c0
                have g1 := cell_at hR hb c1
                rw [e1] at g1 f1
                refine (slow_any b.blk (b.base + o) g fa ca w (fun w2 => ∃ ρ2, (∀ j, j < h.next → ρ2 j = ρ j) ∧ h.next ≤ h2.next ∧ Rel h2 ρ2 T w2 ∧ Keeps T w w2) hsp.1 g0 g1 f0 f1 ?_).mono ?_
                · refine (hsp.2 ρ T _ (fa ++ ca) (by rw [← e1]; exact R1) (by rw [Array.toList_append]; exact hfa.append hca)).mono ?_
                  rintro e w2 ⟨ρ2, v3, u, h3', q1, q2, q3, q4, rfl, q5, hq⟩
                  cases hq
                  have hi : i < h1'.next := by
                    rcases Nat.lt_or_ge i h1'.next with hlt | hge
                    · exact hlt
                    · obtain ⟨_, _, _, _, r4, _⟩ := R1
                      rw [r4 i hge] at hb; cases hb
                  have hb2 : ρ2 i = some b := (q1 i hi).trans hb
                  obtain ⟨h5, hs5⟩ := Option.isSome_iff_exists.1 d2
                  obtain ⟨_, z1, _⟩ := putI_ok (P := Tryz.prog) q3 (put_at hs5) hb2
                  obtain ⟨_, z0, _⟩ := putI_ok (P := Tryz.prog) q3 (put_at hs3) hb2
                  have m0 := cell_at q3 hb2 d0
                  have m1 := cell_at q3 hb2 d1
                  rw [e1] at m1 z1
                  exact ⟨⟨u, rfl⟩, m0, z0, m1, z1, ρ2, fun j hj => q1 j (by rw [n1]; exact hj), by rw [← n1]; exact q2, q3, (by rw [e1] at K1; exact K1.trans q5)⟩
                · rintro e w' ⟨rfl, w2, ⟨ρ2, q1, q2, q3, q5⟩, rfl⟩
                  have hi : i < h.next := by
                    rcases Nat.lt_or_ge i h.next with hlt | hge
                    · exact hlt
                    · obtain ⟨_, _, _, _, r4, _⟩ := hR
                      rw [r4 i hge] at hb; cases hb
                  have hb2 : ρ2 i = some b := (q1 i hi).trans hb
                  obtain ⟨h3', _, R3, n3, K3, rfl⟩ := putI_ok (P := Tryz.prog) q3.drew (put_at hs3) hb2
                  obtain ⟨h4', _, R4, n4, K4, rfl⟩ := putI_ok (P := Tryz.prog) R3 (put_at hs4) hb2
                  rw [e1] at R4 K4
                  exact ⟨ρ2, _, _, _, q1, by omega, R4, by simp only [VRel]; exact ⟨_, rfl, .nil⟩, rfl, ((q5.trans (Keeps.drew T w2)).trans K3).trans K4, rfl, rfl⟩
              · cases ho
            · cases ho
        · cases ho
      · cases ho
  · cases ho
end Go.Proofs.YtpbdlibgbkhlhaaGreat
