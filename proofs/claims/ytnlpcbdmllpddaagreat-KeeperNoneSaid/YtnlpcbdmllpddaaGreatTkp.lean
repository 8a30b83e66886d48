import Derived.Test.YtnlpcbdmllpddaaGreatTka
import Derived.Test.YtnlpcbdmllpddaaGreatTkb
import Derived.Test.YtnlpcbdmllpddaaGreatTkc
import Derived.Test.YtnlpcbdmllpddaaGreatTkd
import Derived.Test.YtnlpcbdmllpddaaGreatTke
import Derived.Test.YtnlpcbdmllpddaaGreatTkf
import Derived.Test.YtnlpcbdmllpddaaGreatTkg
import Derived.Test.YtnlpcbdmllpddaaGreatTkh
import Derived.Test.YtnlpcbdmllpddaaGreatTki
import Derived.Test.YtnlpcbdmllpddaaGreatTkj
import Derived.Test.YtnlpcbdmllpddaaGreatTkk
import Derived.Test.YtnlpcbdmllpddaaGreatTkl
import Derived.Test.YtnlpcbdmllpddaaGreatTkm
import Derived.Test.YtnlpcbdmllpddaaGreatTkn
import Derived.Test.YtnlpcbdmllpddaaGreatTko
section
/- KeeperNone: without an arena keepers and frames stay as they are: for every phase, every rest and every call the law answers true. There are no conditions. -/
namespace Go.Proofs.YtnlpcbdmllpddaaGreat
open Go SE
open Go.ChangeShapes Go.WideShapes Go.ChangeAt Go.RowKit
namespace KeeperNone
theorem again : readAgain Tryz.prog Tryz.f3.params.toList = true := by kernel_rfl
set_option maxRecDepth 100000 in
theorem lifted (os : Os) (started : os.Started) (H : Type) (enc : TypeId × Value → H) :
    ReturnsInHanded {} Tryz.checked os 3 .any (Rows.keeperNoneSpec.pre6 enc Tryz.prog Tryz.f3 Rows.keeperNoneRow.domain false) (Rows.keeperNoneSpec.post enc Tryz.prog Tryz.f3 false true false false) := by
  refine returnsInHanded_of_change (C := Tryz.checked) own started (by kernel_rfl) Tryz.func3
    (ChangeSpec.witness6 (enc := enc) (C := Tryz.checked) false ⟨#[], #[.int .i64 0, .int .i64 0, .int .i64 0, .agg #[.int .i64 0, .string ⟨#[]⟩, .string ⟨#[]⟩, .string ⟨#[]⟩, .slice none 0 0]], []⟩ 8 (by kernel_rfl) (by kernel_rfl) (by kernel_rfl) (by kernel_rfl)) ?_
  intro W base args ds gs before hval0 hW hcnd _
  have hval : ∀ (j : Nat) t v, Tryz.f3.params[j]? = some t → args[j]? = some v → Value.okWide Tryz.prog W .any base t v := hval0
  have hW' := hW
  obtain ⟨p, q, hA0, hV, rfl, hfz, hnd⟩ := hW
  have hA : DataW.TrodAll enc Tryz.prog W 0 (fun _ => true) true Tryz.f3.params.toList args.toList ds p := hA0
  rw [Tryz.params3] at hA hval
  obtain ⟨v0, vs0, d0, ds0, p0, q0, hargs, rfl, rfl, h0, r0⟩ := trodAll_cons hA
  obtain ⟨v1, vs1, d1, ds1, p1, q1, rfl, rfl, rfl, h1, r1⟩ := trodAll_cons r0
  obtain ⟨v2, vs2, d2, ds2, p2, q2, rfl, rfl, rfl, h2, r2⟩ := trodAll_cons r1
  obtain ⟨v3, vs3, d3, ds3, p3, q3, rfl, rfl, rfl, h3, r3⟩ := trodAll_cons r2
  obtain ⟨rfl, rfl, rfl⟩ := trodAll_nil r3
  obtain rfl : args = #[v0, v1, v2, v3] := by cases args; simp_all
  obtain ⟨rfl, rfl⟩ := trodVars_none hV
  obtain ⟨a0, rfl, rfl, rfl, w0⟩ := open_int Tryz.underlying3 (hval 0 3 v0 rfl rfl) h0
  obtain ⟨a1, rfl, rfl, rfl, w1⟩ := open_int Tryz.underlying3 (hval 1 3 v1 rfl rfl) h1
  obtain ⟨a2, rfl, rfl, rfl, w2⟩ := open_int Tryz.underlying3 (hval 2 3 v2 rfl rfl) h2
  obtain ⟨c, g, hvc, hog⟩ := open_call (hval 3 24 v3 rfl rfl) h3
  refine (Sp.callsOver 1 c.os [g] (kNone_sp c a0 a1 a2) rfl W ⟨hog _ _, trivial⟩ (vs := #[.int .i64 a0, .int .i64 a1, .int .i64 a2, v3]) (.cons (by simp [VRel, i64]) (.cons (by simp [VRel, i64]) (.cons (by simp [VRel, i64]) (.cons (hvc _ 0 rfl) (.nil))))) (fun _ _ h => h)).mono fun e W' ⟨he, hg⟩ => ?_
  subst he
  exact ⟨_, rfl, post_true laidOut again hW' hg rfl rfl Tryz.underlying4 rfl rfl rfl⟩

theorem over : Rows.keeperNoneRow.holds Tryz.pinned (OpenSpec.ofChange Rows.keeperNoneSpec) :=
  OpenClaim.holds_of_wide 3 Tryz.f3 rfl rfl rfl rfl rfl rfl rfl ⟨rfl, rfl, rfl, rfl, rfl⟩ rfl rfl rfl rfl rfl (by kernel_rfl) Tryz.func3 keeper_facts
    (of_decide_eq_true (by kernel_rfl)) (by unfold Func.isWrapper; rw [if_neg (of_decide_eq_false (by kernel_rfl))]; exact ⟨rfl, rfl⟩)
    (fun os started H enc _ => lifted os started H enc)
theorem proved : Rows.KeeperNoneSaid := over
end KeeperNone
end Go.Proofs.YtnlpcbdmllpddaaGreat
end
