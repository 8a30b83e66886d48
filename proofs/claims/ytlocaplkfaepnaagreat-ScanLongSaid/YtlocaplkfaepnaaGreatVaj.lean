import Derived.Test.YtlocaplkfaepnaaGreatVaa
import Derived.Test.YtlocaplkfaepnaaGreatVab
import Derived.Test.YtlocaplkfaepnaaGreatVac
import Derived.Test.YtlocaplkfaepnaaGreatVad
import Derived.Test.YtlocaplkfaepnaaGreatVae
import Derived.Test.YtlocaplkfaepnaaGreatVaf
import Derived.Test.YtlocaplkfaepnaaGreatVag
import Derived.Test.YtlocaplkfaepnaaGreatVah
import Derived.Test.YtlocaplkfaepnaaGreatVai
import Derived.KernelRfl
section
/- A scan of an empty store, step by step: what is asked is so; the whole scan: contracts. -/
namespace Go.Proofs.YtlocaplkfaepnaaGreat
open Go SE
theorem tblSL_ok : TblOk Tryz.prog tblSL := .cons (ctrT_ok goodN_ok) (.consX (fun _ _ _ hq => loadX_ok _ _ _ ext_load64 hq) (.consX (fun _ _ _ hq => casX_ok _ _ _ ext_cas64 hq) (.consX (fun _ _ _ hq => swapX_ok _ _ _ ext_swap64 hq) .nil)))
theorem leaveSVC_true (p : BA × BA) : leaveSVC p := by
  unfold leaveSVC
  simp [I64, es]
theorem leaveS_ok : CtrOk Tryz.prog 36 (stepS 6 1 1 1 7 1 1 0) := ctr_endL tt_ok mixed tblSL_ok (C := stepS 6 1 1 1 7 1 1 0) (fun _ => noAn) 400 9 (fun _ => rfl) (fun _ => ⟨fun _ => rfl, trivial⟩) fun p _ => Eq.mp (leaveSVC_ok p) (leaveSVC_true p)
theorem walkSVC_true (p : BA × BA) : walkSVC p := by
  unfold walkSVC
  simp [I64, es]
theorem walkS_ok : CtrOk Tryz.prog 36 (stepS 9 1 1 1 6 1 1 1) := ctr_endL tt_ok mixed tblSL_ok (C := stepS 9 1 1 1 6 1 1 1) (fun _ => noAn) 400 9 (fun _ => rfl) (fun _ => ⟨fun _ => rfl, trivial⟩) fun p _ => Eq.mp (walkSVC_ok p) (walkSVC_true p)
theorem seek4VC_true (p : BA × BA) : seek4VC p := by
  unfold seek4VC
  simp [I64, es]
theorem seek4_ok : CtrOk Tryz.prog 36 (stepS 8 4 1 1 8 3 1 1) := ctr_endL tt_ok mixed tblSL_ok (C := stepS 8 4 1 1 8 3 1 1) (fun _ => noAn) 400 9 (fun _ => rfl) (fun _ => ⟨fun _ => rfl, trivial⟩) fun p _ => Eq.mp (seek4VC_ok p) (seek4VC_true p)
theorem seek3VC_true (p : BA × BA) : seek3VC p := by
  unfold seek3VC
  simp [I64, es]
theorem seek3_ok : CtrOk Tryz.prog 36 (stepS 8 3 1 1 8 2 1 1) := ctr_endL tt_ok mixed tblSL_ok (C := stepS 8 3 1 1 8 2 1 1) (fun _ => noAn) 400 9 (fun _ => rfl) (fun _ => ⟨fun _ => rfl, trivial⟩) fun p _ => Eq.mp (seek3VC_ok p) (seek3VC_true p)
theorem seek2VC_true (p : BA × BA) : seek2VC p := by
  unfold seek2VC
  simp [I64, es]
theorem seek2_ok : CtrOk Tryz.prog 36 (stepS 8 2 1 1 8 1 1 1) := ctr_endL tt_ok mixed tblSL_ok (C := stepS 8 2 1 1 8 1 1 1) (fun _ => noAn) 400 9 (fun _ => rfl) (fun _ => ⟨fun _ => rfl, trivial⟩) fun p _ => Eq.mp (seek2VC_ok p) (seek2VC_true p)
theorem seek1VC_true (p : BA × BA) : seek1VC p := by
  unfold seek1VC
  simp [I64, es]
theorem seek1_ok : CtrOk Tryz.prog 36 (stepS 8 1 1 1 9 1 1 1) := ctr_endL tt_ok mixed tblSL_ok (C := stepS 8 1 1 1 9 1 1 1) (fun _ => noAn) 400 9 (fun _ => rfl) (fun _ => ⟨fun _ => rfl, trivial⟩) fun p _ => Eq.mp (seek1VC_ok p) (seek1VC_true p)
theorem enterSVC_true (p : BA × BA) : enterSVC p := by
  unfold enterSVC
  simp only [hd_iff, and_true, true_and, Nat.zero_add, Nat.add_zero, unit_ex, unit_all, true_implies, implies_true, Int.toNat_natCast, eq_self, and_self, es_eq]
  refine ⟨⟨by omega, by omega⟩, ⟨by omega, by omega⟩, scanCll p, rfl, ⟨rfl, rfl, rfl, rfl⟩, cP_intro (fun h => ⟨by omega, .inl (by simpa using h)⟩) (fun h => cP_intro (fun _ => .inr ⟨by simpa using h, rfl⟩) (fun h' => ?_))⟩
  have hg : goodM (scanCll p) ≠ 0 := by simpa using h
  simp [hg] at h'
theorem enterS_ok : CtrOk Tryz.prog 36 enterS := ctr_endL tt_ok mixed tblSL_ok (C := enterS) (fun _ => noAn) 400 9 (fun _ => rfl) (fun _ => ⟨fun _ => rfl, fun _ => rfl, trivial⟩) fun p _ => Eq.mp (enterSVC_ok p) (enterSVC_true p)
noncomputable section
def levelKey (args : List AV) : Int := match args.drop 2 with
  | x :: _ => 10 * nthI 5 x + nthI 9 x
  | _ => -1
def longL : List (Int × WTr) := [(0, ctrT enterS), (84, ctrT (stepS 8 4 1 1 8 3 1 1)), (83, ctrT (stepS 8 3 1 1 8 2 1 1)), (82, ctrT (stepS 8 2 1 1 8 1 1 1)), (81, ctrT (stepS 8 1 1 1 9 1 1 1)), (91, ctrT (stepS 9 1 1 1 6 1 1 1)), (61, ctrT (stepS 6 1 1 1 7 1 1 0))]
theorem longL_ok : AllT Tryz.prog 36 longL := ⟨ctrT_ok enterS_ok, ctrT_ok seek4_ok, ctrT_ok seek3_ok, ctrT_ok seek2_ok, ctrT_ok seek1_ok, ctrT_ok walkS_ok, ctrT_ok leaveS_ok, trivial⟩
/-- The whole scan. -/
def runLong : Ctr := { X := BA × BA, args := fun p => [.ptr 0 0, i64 0, .agg [i64 6, str p.1, str es, str p.2, nilS]], k := 5, os := fun _ => softO 0, pre := fun _ => True, outs := [
  { Y := Unit, post := fun _ _ => True, ret := fun p _ => .tup [.agg [i64 (goodM (scanCll p)), boo false, str es, nilS, nilS, u64 0], boo true], m := 5, os := fun _ _ => softO 0 }] }
end
end Go.Proofs.YtlocaplkfaepnaaGreat
end
section
/- A scan of an empty store, whole: what is asked. -/
namespace Go.Proofs.YtlocaplkfaepnaaGreat
open Go SE
def runLongVC_wp (p : BA × BA) : Prop := wpF Tryz.prog [(36, byI levelKey longL)] tt noAn 400 6 30 (runLong.args p) (hO runLong.k (runLong.os p)) (fun v h' => endsP runLong.k p v h' runLong.outs)
def runLongVC (p : BA × BA) : Prop :=
  (∃ (x : (@Prod @BA @BA)), (True ∧ (((0 = 0) ∧ (((0 : Int) = (0 : Int)) ∧ ((((6 : Int) = (6 : Int)) ∧ (((Prod.fst x) = (Prod.fst p)) ∧ ((es = es) ∧ (((Prod.snd x) = (Prod.snd p)) ∧ (((Value.slice none 0 0) = (Value.slice none 0 0)) ∧ (((0 : Int) = (0 : Int)) ∧ (((0 : Int) = (0 : Int)) ∧ ((es = (@ByteArray.mk (@List.toArray UInt8 (@List.nil UInt8)))) ∧ ((Bool.false = Bool.false) ∧ (((0 : Int) = (0 : Int)) ∧ ((Bool.false = Bool.false) ∧ ((es = (@ByteArray.mk (@List.toArray UInt8 (@List.nil UInt8)))) ∧ (((0 : Int) = (0 : Int)) ∧ (((0 : Int) = (0 : Int)) ∧ (((0 : Int) = (0 : Int)) ∧ (((0 : Int) = (0 : Int)) ∧ (((-(1 : Int)) = (-(1 : Int))) ∧ (((0 : Int) = (0 : Int)) ∧ (((0 : Int) = (0 : Int)) ∧ (((Value.slice none 0 0) = (Value.slice none 0 0)) ∧ (((0 : Int) = (0 : Int)) ∧ (((Value.slice none 0 0) = (Value.slice none 0 0)) ∧ (((0 : Int) = (0 : Int)) ∧ ((Bool.false = Bool.false) ∧ ((es = (@ByteArray.mk (@List.toArray UInt8 (@List.nil UInt8)))) ∧ (((Value.slice none 0 0) = (Value.slice none 0 0)) ∧ (((Value.slice none 0 0) = (Value.slice none 0 0)) ∧ (((0 : Int) = (0 : Int)) ∧ True)))))))))))))))))))))))))))) ∧ True))) ∧ (((True ∧ (True ∧ ((0 = 0) ∧ ((0 = 0) ∧ (True ∧ (True ∧ ((0 = 0) ∧ (True ∧ (True ∧ (True ∧ (True ∧ True))))))))))) ∧ ((((1 : Int) = (1 : Int)) ∧ (((0 = 0) ∧ ((1 = 1) ∧ (1 = 1))) ∧ True)) ∧ ((((1 : Int) = (1 : Int)) ∧ True) ∧ ((((Value.slice none 0 0) = (Value.slice none 0 0)) ∧ (((Value.slice none 0 0) = (Value.slice none 0 0)) ∧ (((Value.slice none 0 0) = (Value.slice none 0 0)) ∧
 (((Value.slice none 0 0) = (Value.slice none 0 0)) ∧ True)))) ∧ ((((0 : Int) = (0 : Int)) ∧ True) ∧ True))))) ∧ ((∀ (y : Unit), ((Hd ((goodM (@scanCll x)) = (0 : Int))) → ((I64 (1 : Int)) ∧ (∃ (x_1 : (@Prod @BA @BA)), (True ∧ (((0 = 0) ∧ (((0 : Int) = (0 : Int)) ∧ ((((6 : Int) = (6 : Int)) ∧ (((Prod.fst x_1) = (Prod.fst x)) ∧ ((es = es) ∧ (((Prod.snd x_1) = (Prod.snd x)) ∧ (((Value.slice none 0 0) = (Value.slice none 0 0)) ∧ (((8 : Int) = (8 : Int)) ∧ (((1 : Int) = (1 : Int)) ∧ ((es = es) ∧ ((Bool.false = Bool.false) ∧ (((4 : Int) = (4 : Int)) ∧ ((Bool.false = Bool.false) ∧ ((es = es) ∧ (((0 : Int) = (0 : Int)) ∧ (((0 : Int) = (0 : Int)) ∧ (((0 : Int) = (0 : Int)) ∧ (((0 : Int) = (0 : Int)) ∧ (((-(1 : Int)) = (-(1 : Int))) ∧ (((0 : Int) = (0 : Int)) ∧ (((0 : Int) = (0 : Int)) ∧ (((Value.slice none 0 0) = (Value.slice none 0 0)) ∧ (((0 : Int) = (0 : Int)) ∧ (((Value.slice none 0 0) = (Value.slice none 0 0)) ∧ (((0 : Int) = (0 : Int)) ∧ ((Bool.false = Bool.false) ∧ ((es = es) ∧ (((Value.slice none 0 0) = (Value.slice none 0 0)) ∧ (((Value.slice none 0 0) = (Value.slice none 0 0)) ∧ (((0 : Int) = (0 : Int)) ∧ True)))))))))))))))))))))))))))) ∧ True))) ∧ (((True ∧ (True ∧ ((0 = 0) ∧ ((0 = 0) ∧ (True ∧ (True ∧ ((0 = 0) ∧ (True ∧ (True ∧ (True ∧ (True ∧ True))))))))))) ∧ ((((1 : Int) = (1 : Int)) ∧ (((0 = 0) ∧ ((1 = 1) ∧ (1 = 1))) ∧ True)) ∧ ((((1 : Int) = (1 : Int)) ∧ True) ∧ ((((Value.slice none 0 0) = (Value.slice none 0 0)) ∧ (((Value.slice none 0 0) = (Value.slice none 0 0)) ∧ (((Value.slice none 0 0) = (Value.slice none 0 0)) ∧
 (((Value.slice none 0 0) = (Value.slice none 0 0)) ∧ True)))) ∧ ((((1 : Int) = (1 : Int)) ∧ True) ∧ True))))) ∧ (∀ (y_1 : Unit), (True → ((I64 (2 : Int)) ∧ (∃ (x_2 : (@Prod @BA @BA)), (True ∧ (((0 = 0) ∧ (((0 : Int) = (0 : Int)) ∧ ((((6 : Int) = (6 : Int)) ∧ (((Prod.fst x_2) = (Prod.fst x_1)) ∧ ((es = es) ∧ (((Prod.snd x_2) = (Prod.snd x_1)) ∧ (((Value.slice none 0 0) = (Value.slice none 0 0)) ∧ (((8 : Int) = (8 : Int)) ∧ (((1 : Int) = (1 : Int)) ∧ ((es = es) ∧ ((Bool.false = Bool.false) ∧ (((3 : Int) = (3 : Int)) ∧ ((Bool.false = Bool.false) ∧ ((es = es) ∧ (((0 : Int) = (0 : Int)) ∧ (((0 : Int) = (0 : Int)) ∧ (((0 : Int) = (0 : Int)) ∧ (((0 : Int) = (0 : Int)) ∧ (((-(1 : Int)) = (-(1 : Int))) ∧ (((0 : Int) = (0 : Int)) ∧ (((0 : Int) = (0 : Int)) ∧ (((Value.slice none 0 0) = (Value.slice none 0 0)) ∧ (((0 : Int) = (0 : Int)) ∧ (((Value.slice none 0 0) = (Value.slice none 0 0)) ∧ (((0 : Int) = (0 : Int)) ∧ ((Bool.false = Bool.false) ∧ ((es = es) ∧ (((Value.slice none 0 0) = (Value.slice none 0 0)) ∧ (((Value.slice none 0 0) = (Value.slice none 0 0)) ∧ (((0 : Int) = (0 : Int)) ∧ True)))))))))))))))))))))))))))) ∧ True))) ∧ (((True ∧ (True ∧ ((0 = 0) ∧ ((0 = 0) ∧ (True ∧ (True ∧ ((0 = 0) ∧ (True ∧ (True ∧ (True ∧ (True ∧ True))))))))))) ∧ ((((1 : Int) = (1 : Int)) ∧ (((0 = 0) ∧ ((1 = 1) ∧ (1 = 1))) ∧ True)) ∧ ((((1 : Int) = (1 : Int)) ∧ True) ∧ ((((Value.slice none 0 0) = (Value.slice none 0 0)) ∧ (((Value.slice none 0 0) = (Value.slice none 0 0)) ∧ (((Value.slice none 0 0) = (Value.slice none 0 0)) ∧
 (((Value.slice none 0 0) = (Value.slice none 0 0)) ∧ True)))) ∧ ((((1 : Int) = (1 : Int)) ∧ True) ∧ True))))) ∧ (∀ (y_2 : Unit), (True → ((I64 (3 : Int)) ∧ (∃ (x_3 : (@Prod @BA @BA)), (True ∧ (((0 = 0) ∧ (((0 : Int) = (0 : Int)) ∧ ((((6 : Int) = (6 : Int)) ∧ (((Prod.fst x_3) = (Prod.fst x_2)) ∧ ((es = es) ∧ (((Prod.snd x_3) = (Prod.snd x_2)) ∧ (((Value.slice none 0 0) = (Value.slice none 0 0)) ∧ (((8 : Int) = (8 : Int)) ∧ (((1 : Int) = (1 : Int)) ∧ ((es = es) ∧ ((Bool.false = Bool.false) ∧ (((2 : Int) = (2 : Int)) ∧ ((Bool.false = Bool.false) ∧ ((es = es) ∧ (((0 : Int) = (0 : Int)) ∧ (((0 : Int) = (0 : Int)) ∧ (((0 : Int) = (0 : Int)) ∧ (((0 : Int) = (0 : Int)) ∧ (((-(1 : Int)) = (-(1 : Int))) ∧ (((0 : Int) = (0 : Int)) ∧ (((0 : Int) = (0 : Int)) ∧ (((Value.slice none 0 0) = (Value.slice none 0 0)) ∧ (((0 : Int) = (0 : Int)) ∧ (((Value.slice none 0 0) = (Value.slice none 0 0)) ∧ (((0 : Int) = (0 : Int)) ∧ ((Bool.false = Bool.false) ∧ ((es = es) ∧ (((Value.slice none 0 0) = (Value.slice none 0 0)) ∧ (((Value.slice none 0 0) = (Value.slice none 0 0)) ∧ (((0 : Int) = (0 : Int)) ∧ True)))))))))))))))))))))))))))) ∧ True))) ∧ (((True ∧ (True ∧ ((0 = 0) ∧ ((0 = 0) ∧ (True ∧ (True ∧ ((0 = 0) ∧ (True ∧ (True ∧ (True ∧ (True ∧ True))))))))))) ∧ ((((1 : Int) = (1 : Int)) ∧ (((0 = 0) ∧ ((1 = 1) ∧ (1 = 1))) ∧ True)) ∧ ((((1 : Int) = (1 : Int)) ∧ True) ∧ ((((Value.slice none 0 0) = (Value.slice none 0 0)) ∧ (((Value.slice none 0 0) = (Value.slice none 0 0)) ∧ (((Value.slice none 0 0) = (Value.slice none 0 0)) ∧
 (((Value.slice none 0 0) = (Value.slice none 0 0)) ∧ True)))) ∧ ((((1 : Int) = (1 : Int)) ∧ True) ∧ True))))) ∧ (∀ (y_3 : Unit), (True → ((I64 (4 : Int)) ∧ (∃ (x_4 : (@Prod @BA @BA)), (True ∧ (((0 = 0) ∧ (((0 : Int) = (0 : Int)) ∧ ((((6 : Int) = (6 : Int)) ∧ (((Prod.fst x_4) = (Prod.fst x_3)) ∧ ((es = es) ∧ (((Prod.snd x_4) = (Prod.snd x_3)) ∧ (((Value.slice none 0 0) = (Value.slice none 0 0)) ∧ (((8 : Int) = (8 : Int)) ∧ (((1 : Int) = (1 : Int)) ∧ ((es = es) ∧ ((Bool.false = Bool.false) ∧ (((1 : Int) = (1 : Int)) ∧ ((Bool.false = Bool.false) ∧ ((es = es) ∧ (((0 : Int) = (0 : Int)) ∧ (((0 : Int) = (0 : Int)) ∧ (((0 : Int) = (0 : Int)) ∧ (((0 : Int) = (0 : Int)) ∧ (((-(1 : Int)) = (-(1 : Int))) ∧ (((0 : Int) = (0 : Int)) ∧ (((0 : Int) = (0 : Int)) ∧ (((Value.slice none 0 0) = (Value.slice none 0 0)) ∧ (((0 : Int) = (0 : Int)) ∧ (((Value.slice none 0 0) = (Value.slice none 0 0)) ∧ (((0 : Int) = (0 : Int)) ∧ ((Bool.false = Bool.false) ∧ ((es = es) ∧ (((Value.slice none 0 0) = (Value.slice none 0 0)) ∧ (((Value.slice none 0 0) = (Value.slice none 0 0)) ∧ (((0 : Int) = (0 : Int)) ∧ True)))))))))))))))))))))))))))) ∧ True))) ∧ (((True ∧ (True ∧ ((0 = 0) ∧ ((0 = 0) ∧ (True ∧ (True ∧ ((0 = 0) ∧ (True ∧ (True ∧ (True ∧ (True ∧ True))))))))))) ∧ ((((1 : Int) = (1 : Int)) ∧ (((0 = 0) ∧ ((1 = 1) ∧ (1 = 1))) ∧ True)) ∧ ((((1 : Int) = (1 : Int)) ∧ True) ∧ ((((Value.slice none 0 0) = (Value.slice none 0 0)) ∧ (((Value.slice none 0 0) = (Value.slice none 0 0)) ∧ (((Value.slice none 0 0) = (Value.slice none 0 0)) ∧
 (((Value.slice none 0 0) = (Value.slice none 0 0)) ∧ True)))) ∧ ((((1 : Int) = (1 : Int)) ∧ True) ∧ True))))) ∧ (∀ (y_4 : Unit), (True → ((I64 (5 : Int)) ∧ (∃ (x_5 : (@Prod @BA @BA)), (True ∧ (((0 = 0) ∧ (((0 : Int) = (0 : Int)) ∧ ((((6 : Int) = (6 : Int)) ∧ (((Prod.fst x_5) = (Prod.fst x_4)) ∧ ((es = es) ∧ (((Prod.snd x_5) = (Prod.snd x_4)) ∧ (((Value.slice none 0 0) = (Value.slice none 0 0)) ∧ (((9 : Int) = (9 : Int)) ∧ (((1 : Int) = (1 : Int)) ∧ ((es = es) ∧ ((Bool.false = Bool.false) ∧ (((1 : Int) = (1 : Int)) ∧ ((Bool.false = Bool.false) ∧ ((es = es) ∧ (((0 : Int) = (0 : Int)) ∧ (((0 : Int) = (0 : Int)) ∧ (((0 : Int) = (0 : Int)) ∧ (((0 : Int) = (0 : Int)) ∧ (((-(1 : Int)) = (-(1 : Int))) ∧ (((0 : Int) = (0 : Int)) ∧ (((0 : Int) = (0 : Int)) ∧ (((Value.slice none 0 0) = (Value.slice none 0 0)) ∧ (((0 : Int) = (0 : Int)) ∧ (((Value.slice none 0 0) = (Value.slice none 0 0)) ∧ (((0 : Int) = (0 : Int)) ∧ ((Bool.false = Bool.false) ∧ ((es = es) ∧ (((Value.slice none 0 0) = (Value.slice none 0 0)) ∧ (((Value.slice none 0 0) = (Value.slice none 0 0)) ∧ (((0 : Int) = (0 : Int)) ∧ True)))))))))))))))))))))))))))) ∧ True))) ∧ (((True ∧ (True ∧ ((0 = 0) ∧ ((0 = 0) ∧ (True ∧ (True ∧ ((0 = 0) ∧ (True ∧ (True ∧ (True ∧ (True ∧ True))))))))))) ∧ ((((1 : Int) = (1 : Int)) ∧ (((0 = 0) ∧ ((1 = 1) ∧ (1 = 1))) ∧ True)) ∧ ((((1 : Int) = (1 : Int)) ∧ True) ∧ ((((Value.slice none 0 0) = (Value.slice none 0 0)) ∧ (((Value.slice none 0 0) = (Value.slice none 0 0)) ∧ (((Value.slice none 0 0) = (Value.slice none 0 0)) ∧
 (((Value.slice none 0 0) = (Value.slice none 0 0)) ∧ True)))) ∧ ((((1 : Int) = (1 : Int)) ∧ True) ∧ True))))) ∧ (∀ (y_5 : Unit), (True → ((I64 (6 : Int)) ∧ (∃ (x_6 : (@Prod @BA @BA)), (True ∧ (((0 = 0) ∧ (((0 : Int) = (0 : Int)) ∧ ((((6 : Int) = (6 : Int)) ∧ (((Prod.fst x_6) = (Prod.fst x_5)) ∧ ((es = es) ∧ (((Prod.snd x_6) = (Prod.snd x_5)) ∧ (((Value.slice none 0 0) = (Value.slice none 0 0)) ∧ (((6 : Int) = (6 : Int)) ∧ (((1 : Int) = (1 : Int)) ∧ ((es = es) ∧ ((Bool.false = Bool.false) ∧ (((1 : Int) = (1 : Int)) ∧ ((Bool.false = Bool.false) ∧ ((es = es) ∧ (((0 : Int) = (0 : Int)) ∧ (((0 : Int) = (0 : Int)) ∧ (((0 : Int) = (0 : Int)) ∧ (((0 : Int) = (0 : Int)) ∧ (((-(1 : Int)) = (-(1 : Int))) ∧ (((0 : Int) = (0 : Int)) ∧ (((0 : Int) = (0 : Int)) ∧ (((Value.slice none 0 0) = (Value.slice none 0 0)) ∧ (((0 : Int) = (0 : Int)) ∧ (((Value.slice none 0 0) = (Value.slice none 0 0)) ∧ (((0 : Int) = (0 : Int)) ∧ ((Bool.false = Bool.false) ∧ ((es = es) ∧ (((Value.slice none 0 0) = (Value.slice none 0 0)) ∧ (((Value.slice none 0 0) = (Value.slice none 0 0)) ∧ (((0 : Int) = (0 : Int)) ∧ True)))))))))))))))))))))))))))) ∧ True))) ∧ (((True ∧ (True ∧ ((0 = 0) ∧ ((0 = 0) ∧ (True ∧ (True ∧ ((0 = 0) ∧ (True ∧ (True ∧ (True ∧ (True ∧ True))))))))))) ∧ ((((1 : Int) = (1 : Int)) ∧ (((0 = 0) ∧ ((1 = 1) ∧ (1 = 1))) ∧ True)) ∧ ((((1 : Int) = (1 : Int)) ∧ True) ∧ ((((Value.slice none 0 0) = (Value.slice none 0 0)) ∧ (((Value.slice none 0 0) = (Value.slice none 0 0)) ∧ (((Value.slice none 0 0) = (Value.slice none 0 0)) ∧
 (((Value.slice none 0 0) = (Value.slice none 0 0)) ∧ True)))) ∧ ((((1 : Int) = (1 : Int)) ∧ True) ∧ True))))) ∧ (∀ (y_6 : Unit), (True → (∃ (y_7 : Unit), (True ∧ (((((goodM (@scanCll p)) = (0 : Int)) ∧ ((Bool.false = Bool.false) ∧ ((es = es) ∧ (((Value.slice none 0 0) = (Value.slice none 0 0)) ∧ (((Value.slice none 0 0) = (Value.slice none 0 0)) ∧ (((0 : Int) = (0 : Int)) ∧ True)))))) ∧ ((Bool.true = Bool.true) ∧ True)) ∧ ((True ∧ (True ∧ ((0 = 0) ∧ ((0 = 0) ∧ (True ∧ (True ∧ ((0 = 0) ∧ (True ∧ (True ∧ (True ∧ (True ∧ True))))))))))) ∧ ((((1 : Int) = (1 : Int)) ∧ (((0 = 0) ∧ ((1 = 1) ∧ (1 = 1))) ∧ True)) ∧ ((((1 : Int) = (1 : Int)) ∧ True) ∧ ((((Value.slice none 0 0) = (Value.slice none 0 0)) ∧ (((Value.slice none 0 0) = (Value.slice none 0 0)) ∧ (((Value.slice none 0 0) = (Value.slice none 0 0)) ∧ (((Value.slice none 0 0) = (Value.slice none 0 0)) ∧ True)))) ∧ ((((0 : Int) = (0 : Int)) ∧ True) ∧ True)))))))))))))))))))))))))))))))))))))))))))))))))))) ∧ (∀ (y : Unit), ((Hd (@Ne Int (goodM (@scanCll x)) (0 : Int))) → (∃ (y_1 : Unit), (True ∧ (((((goodM (@scanCll p)) = (goodM (@scanCll x))) ∧ ((Bool.false = Bool.false) ∧ ((es = es) ∧ (((Value.slice none 0 0) = (Value.slice none 0 0)) ∧ (((Value.slice none 0 0) = (Value.slice none 0 0)) ∧ (((0 : Int) = (0 : Int)) ∧ True)))))) ∧ ((Bool.true = Bool.true) ∧ True)) ∧ ((True ∧ (True ∧ ((0 = 0) ∧ ((0 = 0) ∧ (True ∧ (True ∧ ((0 = 0) ∧ (True ∧ (True ∧ (True ∧ (True ∧ True))))))))))) ∧ ((((1 : Int) = (1 : Int)) ∧ (((0 = 0) ∧ ((1 = 1) ∧ (1 = 1))) ∧
 True)) ∧ ((((1 : Int) = (1 : Int)) ∧ True) ∧ ((((Value.slice none 0 0) = (Value.slice none 0 0)) ∧ (((Value.slice none 0 0) = (Value.slice none 0 0)) ∧ (((Value.slice none 0 0) = (Value.slice none 0 0)) ∧ (((Value.slice none 0 0) = (Value.slice none 0 0)) ∧ True)))) ∧ ((((0 : Int) = (0 : Int)) ∧ True) ∧ True)))))))))))))))
theorem runLongVC_ok (p : BA × BA) : runLongVC p = runLongVC_wp p := by kernel_rfl
end Go.Proofs.YtlocaplkfaepnaaGreat
end
section
/- A scan of an empty store, whole; a new arena, softly. -/
namespace Go.Proofs.YtlocaplkfaepnaaGreat
open Go SE
theorem runLongVC_true (p : BA × BA) : runLongVC p := by
  unfold runLongVC
  simp only [hd_iff, and_true, true_and, Nat.zero_add, Nat.add_zero, unit_ex, unit_all, true_implies, implies_true, Int.toNat_natCast, eq_self, and_self, es_eq]
  refine ⟨p, ⟨rfl, rfl⟩, fun hg => ⟨by unfold I64; omega, p, ⟨rfl, rfl⟩, by unfold I64; omega, p, ⟨rfl, rfl⟩, by unfold I64; omega, p, ⟨rfl, rfl⟩, by unfold I64; omega, p, ⟨rfl, rfl⟩, by unfold I64; omega, p, ⟨rfl, rfl⟩, by unfold I64; omega, p, ⟨rfl, rfl⟩, hg⟩, fun _ => rfl⟩
theorem runLong_ok : CtrOk Tryz.prog 30 runLong := ctr_endL tt_ok mixed (.cons (byT_ok longL_ok) .nil) (C := runLong) (fun _ => noAn) 400 6 (fun _ => rfl) (fun _ => ⟨fun _ => rfl, trivial⟩) fun p _ => Eq.mp (runLongVC_ok p) (runLongVC_true p)
noncomputable section
def newS : Ctr := det Unit (fun _ => [i64 10, i64 1]) 0 (fun _ => []) (fun _ => True) (fun _ => .tup [.ptr 0 0, i64 0]) 5 (fun _ => softO 0)
end
theorem new22 : Sp Tryz.prog 11 [i64 10, i64 1] (hO 0 []) (fun v h => v = sSAV ∧ h = hO sSAM sSAO) := stage tt_ok mixed tblR_ok 2000 40 sSAM sSAI sSAV sSAO sSA_look sSA_run (by kernel_rfl)
theorem csoft_arena : CSoft (atL [0, 3, 4, 7, 11]) 5 (.av [.any, .any, .ptr 1 0, .ptr 2 0, .any, .any, .ptr 3 0, .any, .any, .any, .any]) (.av [.ptr 1 0, .ptr 2 0, .ptr 3 0, .ptr 4 0, .ptr 5 0, .ptr 6 0, .ptr 7 0, .ptr 8 0, u64 0, u64 0, nilS]) := fun k v hk => by
  match k, hk with
  | 0, hk => cases hk; exact .inl rfl
  | 1, hk => cases hk; exact .inl rfl
  | 2, hk => cases hk; exact .inr ⟨rfl, rfl⟩
  | 3, hk => cases hk; exact .inr ⟨rfl, rfl⟩
  | 4, hk => cases hk; exact .inl rfl
  | 5, hk => cases hk; exact .inl rfl
  | 6, hk => cases hk; exact .inr ⟨rfl, rfl⟩
  | 7, hk => cases hk; exact .inl rfl
  | 8, hk => cases hk; exact .inl rfl
  | 9, hk => cases hk; exact .inl rfl
  | 10, hk => cases hk; exact .inl rfl
  | k + 11, hk => cases hk
theorem new_soft : Leq 0 sSAV (hO sSAM sSAO) (.tup [.ptr 0 0, i64 0]) (hO 5 (softO 0)) := by
  refine leq_sub (k := 0) (v := sSAV) (h := hO sSAM sSAO) 5 [0, 3, 4, 7, 11] (softO 0) rfl (by decide) ⟨⟨_, rfl, soft_cells (e := 94) rfl csoft_arena⟩, ⟨_, rfl, soft_map (o0 := .cells 175 (.av [u64 1, .sl 4 0 1 1])) rfl⟩, ⟨_, rfl, soft_cells_room (Nat.le_of_ble_eq_true (by kernel_rfl)) fun k v hk => ?_⟩, ⟨_, rfl, soft_map (o0 := .cells 218 (.av [nilS, nilS, nilS, nilS])) rfl⟩, ⟨_, rfl, soft_cells rfl fun k v hk => ?_⟩, trivial⟩ (by kernel_rfl) (by kernel_rfl)
  · match k, hk with
    | 0, hk => cases hk; exact .inr ⟨by kernel_rfl, by kernel_rfl⟩
    | k + 1, hk => cases hk
  · match k, hk with
    | 0, hk => cases hk; exact .inr ⟨by kernel_rfl, by kernel_rfl⟩
    | k + 1, hk => cases hk
theorem newS_ok : CtrOk Tryz.prog 11 newS := fun _ _ => ⟨rfl, sp_leq (new22.mono fun v h ⟨h1, h2⟩ => ⟨.tup [.ptr 0 0, i64 0], hO 5 (softO 0), by subst h1; subst h2; exact new_soft, by with_unfolding_all exact Or.inl ⟨(), trivial, rfl, rfl⟩⟩)⟩
end Go.Proofs.YtlocaplkfaepnaaGreat
end
section
/- A scan's call: is it good? -/
namespace Go.Proofs.YtlocaplkfaepnaaGreat
open Go SE
theorem goodM_scan (p : BA × BA) : goodM (scanCll p) = if 16 < p.1.size ∨ 16 < p.2.size then 5 else 0 := by
  have hs : shapeM (scanCll p) = true := by
    unfold shapeM
    simp [scanCll, keyedM]
  have hl : longM (scanCll p) = decide (16 < p.1.size ∨ 16 < p.2.size) := by
    have e : longK 6 p.1 es p.2 = (decide ((16 : Int) < (p.1.size : Nat)) || decide ((16 : Int) < (p.2.size : Nat))) := rfl
    unfold longM
    show (longK 6 p.1 es p.2 || (decide ((6 : Int) = 7) && _)) = _
    rw [e]
    have h1 : decide ((16 : Int) < (p.1.size : Nat)) = decide (16 < p.1.size) := by rw [decide_eq_decide]; omega
    have h2 : decide ((16 : Int) < (p.2.size : Nat)) = decide (16 < p.2.size) := by rw [decide_eq_decide]; omega
    rw [h1, h2]
    simp
  unfold goodM
  rw [hs, hl]
  by_cases h : 16 < p.1.size ∨ 16 < p.2.size <;> simp [h]
end Go.Proofs.YtlocaplkfaepnaaGreat
end
section
/- ScanLong: what is asked. (Builds at a seat that has ScanLong alone.) -/
namespace Go.Proofs.YtlocaplkfaepnaaGreat
open Go SE
def scanLongVC_wp (p : BA × BA) : Prop := wpF Tryz.prog [(11, ctrT newS), (30, ctrT runLong), (29, ctrT sayC)] tt noAn 400 6 7 [str p.1, str p.2] (hO 0 []) (fun v _ => v = boo true)
def scanLongVC (p : BA × BA) : Prop :=
  (cP (decide (@GT.gt Int @Int.instLTInt (((@ByteArray.size (Prod.fst p)) : Nat) : Int) (600 : Int))) (∃ (x : Unit), (True ∧ (True ∧ (True ∧ (∀ (y : Unit), (True → ((AV.lit (Value.bool Bool.true)) = (AV.lit (Value.bool Bool.true))))))))) (cP (decide (@GT.gt Int @Int.instLTInt (((@ByteArray.size (Prod.snd p)) : Nat) : Int) (600 : Int))) (∃ (x : Unit), (True ∧ (True ∧ (True ∧ (∀ (y : Unit), (True → ((AV.lit (Value.bool Bool.true)) = (AV.lit (Value.bool Bool.true))))))))) (∃ (x : Unit), (True ∧ ((((10 : Int) = (10 : Int)) ∧ (((1 : Int) = (1 : Int)) ∧ True)) ∧ (True ∧ (∀ (y : Unit), (True → (∃ (x_1 : (@Prod @BA @BA)), (True ∧ (((0 = 0) ∧ (((0 : Int) = (0 : Int)) ∧ ((((6 : Int) = (6 : Int)) ∧ (((Prod.fst x_1) = (Prod.fst p)) ∧ ((es = (@ByteArray.mk (@List.toArray UInt8 (@List.nil UInt8)))) ∧ (((Prod.snd x_1) = (Prod.snd p)) ∧ (((Value.slice none 0 0) = (Value.slice none 0 0)) ∧ True))))) ∧ True))) ∧ (((True ∧ (True ∧ ((0 = 0) ∧ ((0 = 0) ∧ (True ∧ (True ∧ ((0 = 0) ∧ (True ∧ (True ∧ (True ∧ (True ∧ True))))))))))) ∧ ((((1 : Int) = (1 : Int)) ∧ (((0 = 0) ∧ ((1 = 1) ∧ (1 = 1))) ∧ True)) ∧ ((((1 : Int) = (1 : Int)) ∧ True) ∧ ((((Value.slice none 0 0) = (Value.slice none 0 0)) ∧ (((Value.slice none 0 0) = (Value.slice none 0 0)) ∧ (((Value.slice none 0 0) = (Value.slice none 0 0)) ∧ (((Value.slice none 0 0) = (Value.slice none 0 0)) ∧ True)))) ∧ ((((0 : Int) = (0 : Int)) ∧ True) ∧ True))))) ∧ (∀ (y_1 : Unit), (True → (cP (decide (@GT.gt Int @Int.instLTInt (((@ByteArray.size (Prod.fst p)) : Nat) : Int) (16 : Int))) (cP (BEq.beq (goodM (@scanCll x_1)) (5 : Int)) (∃ (x_2 : Unit), (True ∧
 (True ∧ (True ∧ (∀ (y_2 : Unit), (True → ((AV.lit (Value.bool Bool.true)) = (AV.lit (Value.bool Bool.true))))))))) ((AV.lit (Value.bool Bool.false)) = (AV.lit (Value.bool Bool.true)))) (cP (decide (@GT.gt Int @Int.instLTInt (((@ByteArray.size (Prod.snd p)) : Nat) : Int) (16 : Int))) (cP (BEq.beq (goodM (@scanCll x_1)) (5 : Int)) (∃ (x_2 : Unit), (True ∧ (True ∧ (True ∧ (∀ (y_2 : Unit), (True → ((AV.lit (Value.bool Bool.true)) = (AV.lit (Value.bool Bool.true))))))))) ((AV.lit (Value.bool Bool.false)) = (AV.lit (Value.bool Bool.true)))) (cP (BEq.beq (goodM (@scanCll x_1)) (0 : Int)) (∃ (x_2 : Unit), (True ∧ (True ∧ (True ∧ (∀ (y_2 : Unit), (True → ((AV.lit (Value.bool Bool.true)) = (AV.lit (Value.bool Bool.true))))))))) ((AV.lit (Value.bool Bool.false)) = (AV.lit (Value.bool Bool.true))))))))))))))))))))
theorem scanLongVC_ok (p : BA × BA) : scanLongVC p = scanLongVC_wp p := by kernel_rfl
end Go.Proofs.YtlocaplkfaepnaaGreat
end
section
/- What a closed call yields, and the memory behind it: fusee/point.Step. -/
namespace Go.Proofs.YtlocaplkfaepnaaGreat
open Go SE
set_option maxRecDepth 100000
noncomputable section
def sSE1V : AV := (AV.agg [(i64 2), (AV.lit (Value.string (bs [97]))), (AV.lit (Value.string (bs [49]))), (AV.lit (Value.string (bs []))), (AV.lit (Value.slice none 0 0)), (i64 1), (u64 1), (AV.lit (Value.string (bs []))), (AV.lit (Value.bool false)), (i64 0), (AV.lit (Value.bool false)), (AV.lit (Value.string (bs []))), (u64 0), (u64 0), (i64 0), (i64 0), (i64 (-0 - 1)), (i64 0), (i64 0), (AV.lit (Value.slice none 0 0)), (i64 0), (AV.lit (Value.slice none 0 0)), (i64 0), (AV.lit (Value.bool false)), (AV.lit (Value.string (bs []))), (AV.lit (Value.slice none 0 0)), (AV.lit (Value.slice none 0 0)), (u64 0)])
def sSE1O : List AObj := [
(AObj.cells 94 (Cs.av [(AV.ptr 1 0), (AV.ptr 2 0), (AV.ptr 3 0), (AV.ptr 4 0), (AV.ptr 5 0), (AV.ptr 6 0), (AV.ptr 7 0), (AV.ptr 8 0), (u64 0), (u64 0), (AV.lit (Value.slice none 0 0))])),
(AObj.cells 161 (Cs.av [(AV.ptr 9 0), (AV.lit (Value.int IntKind.u32 1)), (AV.lit (Value.int IntKind.i32 0)), (AV.lit (Value.int IntKind.u32 0))])),
(AObj.cells 172 (Cs.av [(AV.sl 10 0 1 1)])),
(AObj.cells 175 (Cs.av [(u64 1), (AV.sl 11 0 1 1)])),
(AObj.cells 215 (Cs.av ([(u64 1), (u64 0), (u64 0), (AV.sl 12 0 1 1)] ++ List.replicate 516 (AV.lit (Value.bool false)) ++ [(AV.lit Value.nilFunc)]))),
(AObj.cells 120 (Cs.av [(AV.lit (Value.slice none 0 0))])),
(AObj.cells 181 (Cs.av [(AV.mp 13), (AV.mp 14), (AV.mp 15), (AV.mp 16), (AV.mp 17), (AV.mp 18), (AV.mp 19), (AV.mp 20)])),
(AObj.cells 218 (Cs.av [(AV.lit (Value.slice none 0 0)), (AV.lit (Value.slice none 0 0)), (AV.lit (Value.slice none 0 0)), (AV.lit (Value.slice none 0 0))])),
(AObj.cells 193 (Cs.av [(AV.lit (Value.slice none 0 0)), (i64 0), (i64 0)])),
(AObj.cells 142 (Cs.av [(AV.sl 21 0 10 10), (i64 2), (i64 2), (i64 1), (i64 0), (i64 0)])),
(AObj.cells 99 (Cs.tr 10 [(i64 0), (AV.lit (Value.bool false)), (AV.lit (Value.bool false)), (AV.lit (Value.bool false)), (AV.lit (Value.bool false)), (AV.lit (Value.bool false)), (AV.lit (Value.bool false)), (AV.lit (Value.bool false)), (AV.lit (Value.bool false)), (i64 0)] (PM.node PM.leaf (some (i64 (-0 - 1))) PM.leaf))),
(AObj.cells 92 (Cs.tr 1 [(u64 0)] (PM.node PM.leaf (some (u64 1)) PM.leaf))),
(AObj.cells 3 (Cs.tr 1 [(i64 0)] PM.leaf)),
(AObj.map [] 0),
(AObj.map [] 0),
(AObj.map [] 0),
(AObj.map [] 0),
(AObj.map [] 0),
(AObj.map [] 0),
(AObj.map [] 0),
(AObj.map [] 0),
(AObj.cells 256 (Cs.tr 1930 (List.replicate 192 (AV.lit (v8 0)) ++ [(AV.lit (Value.bool false))]) (N8 (N8 (N8 (N8 (N8 (N8 (N8 (N8 (L8 0) 0 (L8 0)) 0 (N8 (L8 0) 0 PM.leaf)) 0 (N8 (N8 (L8 0) 0 PM.leaf) 0 (N8 (L8 0) 0 PM.leaf))) 0 (N8 (N8 (N8 (L8 0) 0 PM.leaf) 0 (N8 (L8 0) 0 PM.leaf)) 0 (N8 (N8 (L8 0) 0 PM.leaf) 0 (N8 (L8 0) 0 PM.leaf)))) 0 (N8 (N8 (N8 (N8 (L8 0) 0 PM.leaf) 0 (N8 (L8 0) 0 PM.leaf)) 0 (N8 (N8 (L8 0) 0 PM.leaf) 0 (N8 (L8 0) 0 PM.leaf))) 0 (N8 (N8 (N8 (L8 0) 0 PM.leaf) 0 (N8 (L8 0) 0 PM.leaf)) 0 (N8 (N8 (L8 0) 0 PM.leaf) 0 (N8 (L8 0) 0 PM.leaf))))) 83 (N8 (N8 (N8 (N8 (N8 (L8 0) 83 PM.leaf) 83 (N8 (L8 0) 0 PM.leaf)) 0 (N8 (N8 (L8 0) 0 PM.leaf) 0 (N8 (L8 0) 0 PM.leaf))) 0 (N8 (N8 (N8 (L8 0) 0 PM.leaf) 0 (N8 (L8 0) 0 PM.leaf)) 0 (N8 (N8 (L8 0) 0 PM.leaf) 0 (N8 (L8 0) 0 PM.leaf)))) 78 (N8 (N8 (N8 (N8 (L8 40) 78 PM.leaf) 78 (N8 (L8 40) 40 PM.leaf)) 0 (N8 (N8 (L8 0) 0 PM.leaf) 0 (N8 (L8 0) 0 PM.leaf))) 0 (N8 (N8 (N8 (L8 0) 0 PM.leaf) 0 (N8 (L8 0) 0 PM.leaf)) 0 (N8 (N8 (L8 0) 0 PM.leaf) 0 (N8 (L8 0) 0 PM.leaf)))))) 70 (N8 (N8 (N8 (N8 (N8 (N8 (L8 3) 70 (PM.node PM.leaf (some (AV.lit (Value.bool false))) PM.leaf)) 70 (N8 (L8 3) 3 PM.leaf)) 0 (N8 (N8 (L8 0) 0 PM.leaf) 0 (N8 (L8 0) 0 PM.leaf))) 0 (N8 (N8 (N8 (L8 0) 0 PM.leaf) 0 (N8 (L8 0) 0 PM.leaf)) 0 (N8 (N8 (L8 0) 0 PM.leaf) 0 (N8 (L8 0) 0 PM.leaf)))) 220 (N8 (N8 (N8 (N8 (L8 0) 220 PM.leaf) 220 (N8 (L8 0) 0 PM.leaf)) 0 (N8 (N8 (L8 0) 0 PM.leaf) 0 (N8 (L8 0) 0 PM.leaf))) 0 (N8 (N8 (N8 (L8 0) 0 PM.leaf) 0 (N8 (L8 0) 0 PM.leaf)) 0 (N8 (N8 (L8 0) 0 PM.leaf) 0 (N8 (L8 0) 0 PM.leaf))))) 10 (N8 (N8 (N8 (N8 (N8 (L8 0) 10 PM.leaf) 10 (N8 (L8 0) 0 PM.leaf)) 0 (N8 (N8 (L8 0) 0 PM.leaf) 0 (N8 (L8 0) 0 PM.leaf))) 0 (N8 (N8 (N8 (L8 0) 0 PM.leaf) 0 (N8 (L8 0) 0 PM.leaf)) 0 (N8 (N8 (L8 0) 0 PM.leaf) 0 (N8 (L8 0) 0 PM.leaf)))) 0 (N8 (N8 (N8 (N8 (L8 223) 0 PM.leaf) 0 (N8 (L8 223) 223 PM.leaf)) 0 (N8 (N8 (L8 0) 0 PM.leaf) 0 (N8 (L8 0) 0 PM.leaf))) 0 (N8 (N8 (N8 (L8 0) 0 PM.leaf) 0 (N8 (L8 0) 0 PM.leaf)) 0 (N8 (N8 (L8 0) 0 PM.leaf) 0 (N8 (L8 0) 0 PM.leaf))))))) 4 (N8 (N8 (N8 (N8 (N8 (N8 (N8 (L8 0) 4 (L8 0)) 4 (PM.node (L8 0) (some (AV.lit (Value.bool false))) PM.leaf)) 0 (N8 (N8 (L8 0) 0 PM.leaf) 0 (N8 (L8 0) 0 PM.leaf))) 0 (N8 (N8 (N8 (L8 0) 0 PM.leaf) 0 (N8 (L8 0) 0 PM.leaf)) 0 (N8 (N8 (L8 0) 0 PM.leaf) 0 (N8 (L8 0) 0 PM.leaf)))) 0 (N8 (N8 (N8 (N8 (L8 0) 0 PM.leaf) 0 (N8 (L8 0) 0 PM.leaf)) 0 (N8 (N8 (L8 0) 0 PM.leaf) 0 (N8 (L8 0) 0 PM.leaf))) 0 (N8 (N8 (N8 (L8 0) 0 PM.leaf) 0 (N8 (L8 0) 0 PM.leaf)) 0 (N8 (N8 (L8 0) 0 PM.leaf) 0 (N8 (L8 0) 0 PM.leaf))))) 69 (N8 (N8 (N8 (N8 (N8 (L8 0) 69 PM.leaf) 69 (N8 (L8 0) 0 PM.leaf)) 0 (N8 (N8 (L8 0) 0 PM.leaf) 0 (N8 (L8 0) 0 PM.leaf))) 0 (N8 (N8 (N8 (L8 0) 0 PM.leaf) 0 (N8 (L8 0) 0 PM.leaf)) 0 (N8 (N8 (L8 0) 0 PM.leaf) 0 (N8 (L8 0) 0 PM.leaf)))) 80 (N8 (N8 (N8 (N8 (L8 132) 80 PM.leaf) 80 (N8 (L8 132) 132 PM.leaf)) 0 (N8 (N8 (L8 0) 0 PM.leaf) 0 (N8 (L8 0) 0 PM.leaf))) 0 (N8 (N8 (N8 (L8 0) 0 PM.leaf) 0 (N8 (L8 0) 0 PM.leaf)) 0 (N8 (N8 (L8 0) 0 PM.leaf) 0 (N8 (L8 0) 0 PM.leaf)))))) 85 (N8 (N8 (N8 (N8 (N8 (N8 (L8 0) 85 PM.leaf) 85 (N8 (L8 0) 0 PM.leaf)) 0 (N8 (N8 (L8 0) 0 PM.leaf) 0 (N8 (L8 0) 0 PM.leaf))) 0 (N8 (N8 (N8 (L8 0) 0 PM.leaf) 0 (N8 (L8 0) 0 PM.leaf)) 0 (N8 (N8 (L8 0) 0 PM.leaf) 0 (N8 (L8 0) 0 PM.leaf)))) 5 (N8 (N8 (N8 (N8 (L8 107) 5 PM.leaf) 5 (N8 (L8 107) 107 PM.leaf)) 0 (N8 (N8 (L8 0) 0 PM.leaf) 0 (N8 (L8 0) 0 PM.leaf))) 0 (N8 (N8 (N8 (L8 0) 0 PM.leaf) 0 (N8 (L8 0) 0 PM.leaf)) 0 (N8 (N8 (L8 0) 0 PM.leaf) 0 (N8 (L8 0) 0 PM.leaf))))) 0 (N8 (N8 (N8 (N8 (N8 (L8 0) 0 PM.leaf) 0 (N8 (L8 0) 0 PM.leaf)) 0 (N8 (N8 (L8 0) 0 PM.leaf) 0 (N8 (L8 0) 0 PM.leaf))) 0 (N8 (N8 (N8 (L8 0) 0 PM.leaf) 0 (N8 (L8 0) 0 PM.leaf)) 0 (N8 (N8 (L8 0) 0 PM.leaf) 0 (N8 (L8 0) 0 PM.leaf)))) 0 (N8 (N8 (N8 (N8 (L8 0) 0 PM.leaf) 0 (N8 (L8 0) 0 PM.leaf)) 0 (N8 (N8 (L8 0) 0 PM.leaf) 0 (N8 (L8 0) 0 PM.leaf))) 0 (N8 (N8 (N8 (L8 0) 0 PM.leaf) 0 (N8 (L8 0) 0 PM.leaf)) 0 (N8 (N8 (L8 0) 0 PM.leaf) 0 (N8 (L8 0) 0 PM.leaf))))))))))]
abbrev sSE1M : Nat := 22
def sSE1I : List Nat := [0, 1, 2, 3, 4, 5, 6, 7, 8, 9, 10, 11, 12, 13, 14, 15, 16, 17, 18, 19, 20, 21]
end
end Go.Proofs.YtlocaplkfaepnaaGreat
end
section
/- A closed call, run: fusee/point.Step. -/
namespace Go.Proofs.YtlocaplkfaepnaaGreat
open Go SE
set_option maxRecDepth 100000
noncomputable section
theorem sSE1_look : lookX tblR 55 = none := by kernel_rfl
theorem sSE1_run : runH Tryz.prog tblR tt 2000 40 55 [.ptr 0 0, i64 0, .agg (frL [i64 2, str (bs [97]), str (bs [49]), str es] nilS)] (hO sSAM sSAO) (told sSE1I) = .ok (vmap (atL sSE1I) sSE1V, sSE1O.map fun o => some (omap (atL sSE1I) o)) := by kernel_rfl
theorem sSE1_sp : Sp Tryz.prog 55 [.ptr 0 0, i64 0, .agg (frL [i64 2, str (bs [97]), str (bs [49]), str es] nilS)] (hO 1 [packed sSAM sSAO]) (fun v h => v = sSE1V ∧ h = hO 1 [packed sSE1M sSE1O]) :=
  stageP tt_ok mixed tblR_ok 2000 40 sSAM sSAO sSE1M sSE1I sSE1V sSE1O sSE1_look sSE1_run (by kernel_rfl) (by kernel_rfl) (by kernel_rfl)
end
end Go.Proofs.YtlocaplkfaepnaaGreat
end
section
/- What a closed call yields, and the memory behind it: fusee/point.Step. -/
namespace Go.Proofs.YtlocaplkfaepnaaGreat
open Go SE
set_option maxRecDepth 100000
noncomputable section
def sSE2V : AV := (AV.agg [(i64 2), (AV.lit (Value.string (bs [97]))), (AV.lit (Value.string (bs [49]))), (AV.lit (Value.string (bs []))), (AV.lit (Value.slice none 0 0)), (i64 3), (u64 1), (AV.lit (Value.string (bs []))), (AV.lit (Value.bool false)), (i64 0), (AV.lit (Value.bool false)), (AV.lit (Value.string (bs []))), (u64 0), (u64 0), (i64 0), (i64 0), (i64 (-0 - 1)), (i64 0), (i64 0), (AV.lit (Value.slice none 0 0)), (i64 0), (AV.lit (Value.slice none 0 0)), (i64 0), (AV.lit (Value.bool false)), (AV.lit (Value.string (bs []))), (AV.lit (Value.slice none 0 0)), (AV.lit (Value.slice none 0 0)), (u64 0)])
def sSE2O : List AObj := [
(AObj.cells 94 (Cs.av [(AV.ptr 1 0), (AV.ptr 2 0), (AV.ptr 3 0), (AV.ptr 4 0), (AV.ptr 5 0), (AV.ptr 6 0), (AV.ptr 7 0), (AV.ptr 8 0), (u64 0), (u64 0), (AV.lit (Value.slice none 0 0))])),
(AObj.cells 161 (Cs.av [(AV.ptr 9 0), (AV.lit (Value.int IntKind.u32 1)), (AV.lit (Value.int IntKind.i32 0)), (AV.lit (Value.int IntKind.u32 0))])),
(AObj.cells 172 (Cs.av [(AV.sl 10 0 1 1)])),
(AObj.cells 175 (Cs.av [(u64 1), (AV.sl 11 0 1 1)])),
(AObj.cells 215 (Cs.av ([(u64 1), (u64 0), (u64 0), (AV.sl 12 0 1 1)] ++ List.replicate 516 (AV.lit (Value.bool false)) ++ [(AV.lit Value.nilFunc)]))),
(AObj.cells 120 (Cs.av [(AV.lit (Value.slice none 0 0))])),
(AObj.cells 181 (Cs.av [(AV.mp 13), (AV.mp 14), (AV.mp 15), (AV.mp 16), (AV.mp 17), (AV.mp 18), (AV.mp 19), (AV.mp 20)])),
(AObj.cells 218 (Cs.av [(AV.lit (Value.slice none 0 0)), (AV.lit (Value.slice none 0 0)), (AV.lit (Value.slice none 0 0)), (AV.lit (Value.slice none 0 0))])),
(AObj.cells 193 (Cs.av [(AV.lit (Value.slice none 0 0)), (i64 0), (i64 0)])),
(AObj.cells 142 (Cs.av [(AV.sl 21 0 10 10), (i64 2), (i64 2), (i64 1), (i64 0), (i64 0)])),
(AObj.cells 99 (Cs.tr 10 [(i64 0), (AV.lit (Value.bool false)), (AV.lit (Value.bool false)), (AV.lit (Value.bool false)), (AV.lit (Value.bool false)), (AV.lit (Value.bool false)), (AV.lit (Value.bool false)), (AV.lit (Value.bool false)), (AV.lit (Value.bool false)), (i64 0)] (PM.node PM.leaf (some (i64 (-0 - 1))) PM.leaf))),
(AObj.cells 92 (Cs.tr 1 [(u64 0)] (PM.node PM.leaf (some (u64 1)) PM.leaf))),
(AObj.cells 3 (Cs.tr 1 [(i64 0)] PM.leaf)),
(AObj.map [] 0),
(AObj.map [] 0),
(AObj.map [] 0),
(AObj.map [] 0),
(AObj.map [] 0),
(AObj.map [] 0),
(AObj.map [] 0),
(AObj.map [] 0),
(AObj.cells 256 (Cs.tr 1930 (List.replicate 192 (AV.lit (v8 0)) ++ [(AV.lit (Value.bool false))]) (N8 (N8 (N8 (N8 (N8 (N8 (N8 (N8 (L8 0) 0 (L8 0)) 0 (N8 (L8 0) 0 PM.leaf)) 0 (N8 (N8 (L8 0) 0 PM.leaf) 0 (N8 (L8 0) 0 PM.leaf))) 0 (N8 (N8 (N8 (L8 0) 0 PM.leaf) 0 (N8 (L8 0) 0 PM.leaf)) 0 (N8 (N8 (L8 0) 0 PM.leaf) 0 (N8 (L8 0) 0 PM.leaf)))) 0 (N8 (N8 (N8 (N8 (L8 0) 0 PM.leaf) 0 (N8 (L8 0) 0 PM.leaf)) 0 (N8 (N8 (L8 0) 0 PM.leaf) 0 (N8 (L8 0) 0 PM.leaf))) 0 (N8 (N8 (N8 (L8 0) 0 PM.leaf) 0 (N8 (L8 0) 0 PM.leaf)) 0 (N8 (N8 (L8 0) 0 PM.leaf) 0 (N8 (L8 0) 0 PM.leaf))))) 83 (N8 (N8 (N8 (N8 (N8 (L8 0) 83 PM.leaf) 83 (N8 (L8 0) 0 PM.leaf)) 0 (N8 (N8 (L8 0) 0 PM.leaf) 0 (N8 (L8 0) 0 PM.leaf))) 0 (N8 (N8 (N8 (L8 0) 0 PM.leaf) 0 (N8 (L8 0) 0 PM.leaf)) 0 (N8 (N8 (L8 0) 0 PM.leaf) 0 (N8 (L8 0) 0 PM.leaf)))) 78 (N8 (N8 (N8 (N8 (L8 40) 78 PM.leaf) 78 (N8 (L8 40) 40 PM.leaf)) 0 (N8 (N8 (L8 0) 0 PM.leaf) 0 (N8 (L8 0) 0 PM.leaf))) 0 (N8 (N8 (N8 (L8 0) 0 PM.leaf) 0 (N8 (L8 0) 0 PM.leaf)) 0 (N8 (N8 (L8 0) 0 PM.leaf) 0 (N8 (L8 0) 0 PM.leaf)))))) 70 (N8 (N8 (N8 (N8 (N8 (N8 (L8 3) 70 (PM.node PM.leaf (some (AV.lit (Value.bool false))) PM.leaf)) 70 (N8 (L8 3) 3 PM.leaf)) 0 (N8 (N8 (L8 0) 0 PM.leaf) 0 (N8 (L8 0) 0 PM.leaf))) 0 (N8 (N8 (N8 (L8 0) 0 PM.leaf) 0 (N8 (L8 0) 0 PM.leaf)) 0 (N8 (N8 (L8 0) 0 PM.leaf) 0 (N8 (L8 0) 0 PM.leaf)))) 220 (N8 (N8 (N8 (N8 (L8 0) 220 PM.leaf) 220 (N8 (L8 0) 0 PM.leaf)) 0 (N8 (N8 (L8 0) 0 PM.leaf) 0 (N8 (L8 0) 0 PM.leaf))) 0 (N8 (N8 (N8 (L8 0) 0 PM.leaf) 0 (N8 (L8 0) 0 PM.leaf)) 0 (N8 (N8 (L8 0) 0 PM.leaf) 0 (N8 (L8 0) 0 PM.leaf))))) 10 (N8 (N8 (N8 (N8 (N8 (L8 0) 10 PM.leaf) 10 (N8 (L8 0) 0 PM.leaf)) 0 (N8 (N8 (L8 0) 0 PM.leaf) 0 (N8 (L8 0) 0 PM.leaf))) 0 (N8 (N8 (N8 (L8 0) 0 PM.leaf) 0 (N8 (L8 0) 0 PM.leaf)) 0 (N8 (N8 (L8 0) 0 PM.leaf) 0 (N8 (L8 0) 0 PM.leaf)))) 0 (N8 (N8 (N8 (N8 (L8 223) 0 PM.leaf) 0 (N8 (L8 223) 223 PM.leaf)) 0 (N8 (N8 (L8 0) 0 PM.leaf) 0 (N8 (L8 0) 0 PM.leaf))) 0 (N8 (N8 (N8 (L8 0) 0 PM.leaf) 0 (N8 (L8 0) 0 PM.leaf)) 0 (N8 (N8 (L8 0) 0 PM.leaf) 0 (N8 (L8 0) 0 PM.leaf))))))) 4 (N8 (N8 (N8 (N8 (N8 (N8 (N8 (L8 0) 4 (L8 0)) 4 (PM.node (L8 0) (some (AV.lit (Value.bool false))) PM.leaf)) 0 (N8 (N8 (L8 0) 0 PM.leaf) 0 (N8 (L8 0) 0 PM.leaf))) 0 (N8 (N8 (N8 (L8 0) 0 PM.leaf) 0 (N8 (L8 0) 0 PM.leaf)) 0 (N8 (N8 (L8 0) 0 PM.leaf) 0 (N8 (L8 0) 0 PM.leaf)))) 0 (N8 (N8 (N8 (N8 (L8 0) 0 PM.leaf) 0 (N8 (L8 0) 0 PM.leaf)) 0 (N8 (N8 (L8 0) 0 PM.leaf) 0 (N8 (L8 0) 0 PM.leaf))) 0 (N8 (N8 (N8 (L8 0) 0 PM.leaf) 0 (N8 (L8 0) 0 PM.leaf)) 0 (N8 (N8 (L8 0) 0 PM.leaf) 0 (N8 (L8 0) 0 PM.leaf))))) 69 (N8 (N8 (N8 (N8 (N8 (L8 0) 69 PM.leaf) 69 (N8 (L8 0) 0 PM.leaf)) 0 (N8 (N8 (L8 0) 0 PM.leaf) 0 (N8 (L8 0) 0 PM.leaf))) 0 (N8 (N8 (N8 (L8 0) 0 PM.leaf) 0 (N8 (L8 0) 0 PM.leaf)) 0 (N8 (N8 (L8 0) 0 PM.leaf) 0 (N8 (L8 0) 0 PM.leaf)))) 80 (N8 (N8 (N8 (N8 (L8 132) 80 PM.leaf) 80 (N8 (L8 132) 132 PM.leaf)) 0 (N8 (N8 (L8 0) 0 PM.leaf) 0 (N8 (L8 0) 0 PM.leaf))) 0 (N8 (N8 (N8 (L8 0) 0 PM.leaf) 0 (N8 (L8 0) 0 PM.leaf)) 0 (N8 (N8 (L8 0) 0 PM.leaf) 0 (N8 (L8 0) 0 PM.leaf)))))) 85 (N8 (N8 (N8 (N8 (N8 (N8 (L8 0) 85 PM.leaf) 85 (N8 (L8 0) 0 PM.leaf)) 0 (N8 (N8 (L8 0) 0 PM.leaf) 0 (N8 (L8 0) 0 PM.leaf))) 0 (N8 (N8 (N8 (L8 0) 0 PM.leaf) 0 (N8 (L8 0) 0 PM.leaf)) 0 (N8 (N8 (L8 0) 0 PM.leaf) 0 (N8 (L8 0) 0 PM.leaf)))) 5 (N8 (N8 (N8 (N8 (L8 107) 5 PM.leaf) 5 (N8 (L8 107) 107 PM.leaf)) 0 (N8 (N8 (L8 0) 0 PM.leaf) 0 (N8 (L8 0) 0 PM.leaf))) 0 (N8 (N8 (N8 (L8 0) 0 PM.leaf) 0 (N8 (L8 0) 0 PM.leaf)) 0 (N8 (N8 (L8 0) 0 PM.leaf) 0 (N8 (L8 0) 0 PM.leaf))))) 0 (N8 (N8 (N8 (N8 (N8 (L8 0) 0 PM.leaf) 0 (N8 (L8 0) 0 PM.leaf)) 0 (N8 (N8 (L8 0) 0 PM.leaf) 0 (N8 (L8 0) 0 PM.leaf))) 0 (N8 (N8 (N8 (L8 0) 0 PM.leaf) 0 (N8 (L8 0) 0 PM.leaf)) 0 (N8 (N8 (L8 0) 0 PM.leaf) 0 (N8 (L8 0) 0 PM.leaf)))) 0 (N8 (N8 (N8 (N8 (L8 0) 0 PM.leaf) 0 (N8 (L8 0) 0 PM.leaf)) 0 (N8 (N8 (L8 0) 0 PM.leaf) 0 (N8 (L8 0) 0 PM.leaf))) 0 (N8 (N8 (N8 (L8 0) 0 PM.leaf) 0 (N8 (L8 0) 0 PM.leaf)) 0 (N8 (N8 (L8 0) 0 PM.leaf) 0 (N8 (L8 0) 0 PM.leaf))))))))))]
abbrev sSE2M : Nat := 22
def sSE2I : List Nat := [0, 1, 2, 3, 4, 5, 6, 7, 8, 9, 10, 11, 12, 13, 14, 15, 16, 17, 18, 19, 20, 21]
end
end Go.Proofs.YtlocaplkfaepnaaGreat
end
section
/- A closed call, run: fusee/point.Step. -/
namespace Go.Proofs.YtlocaplkfaepnaaGreat
open Go SE
set_option maxRecDepth 100000
noncomputable section
theorem sSE2_look : lookX tblR 55 = none := by kernel_rfl
theorem sSE2_run : runH Tryz.prog tblR tt 2000 40 55 [.ptr 0 0, i64 0, sSE1V] (hO sSE1M sSE1O) (told sSE2I) = .ok (vmap (atL sSE2I) sSE2V, sSE2O.map fun o => some (omap (atL sSE2I) o)) := by kernel_rfl
theorem sSE2_sp : Sp Tryz.prog 55 [.ptr 0 0, i64 0, sSE1V] (hO 1 [packed sSE1M sSE1O]) (fun v h => v = sSE2V ∧ h = hO 1 [packed sSE2M sSE2O]) :=
  stageP tt_ok mixed tblR_ok 2000 40 sSE1M sSE1O sSE2M sSE2I sSE2V sSE2O sSE2_look sSE2_run (by kernel_rfl) (by kernel_rfl) (by kernel_rfl)
end
end Go.Proofs.YtlocaplkfaepnaaGreat
end
section
/- What a closed call yields, and the memory behind it: fusee/point.Step. -/
namespace Go.Proofs.YtlocaplkfaepnaaGreat
open Go SE
set_option maxRecDepth 100000
noncomputable section
def sSE3V : AV := (AV.agg [(i64 2), (AV.lit (Value.string (bs [97]))), (AV.lit (Value.string (bs [49]))), (AV.lit (Value.string (bs []))), (AV.lit (Value.slice none 0 0)), (i64 4), (u64 1), (AV.lit (Value.string (bs []))), (AV.lit (Value.bool false)), (i64 0), (AV.lit (Value.bool false)), (AV.lit (Value.string (bs []))), (u64 0), (u64 0), (i64 0), (i64 0), (i64 2), (i64 0), (i64 0), (AV.lit (Value.slice none 0 0)), (i64 0), (AV.lit (Value.slice none 0 0)), (i64 0), (AV.lit (Value.bool false)), (AV.lit (Value.string (bs []))), (AV.lit (Value.slice none 0 0)), (AV.lit (Value.slice none 0 0)), (u64 0)])
def sSE3O : List AObj := [
(AObj.cells 94 (Cs.av [(AV.ptr 1 0), (AV.ptr 2 0), (AV.ptr 3 0), (AV.ptr 4 0), (AV.ptr 5 0), (AV.ptr 6 0), (AV.ptr 7 0), (AV.ptr 8 0), (u64 0), (u64 0), (AV.lit (Value.slice none 0 0))])),
(AObj.cells 161 (Cs.av [(AV.ptr 9 0), (AV.lit (Value.int IntKind.u32 1)), (AV.lit (Value.int IntKind.i32 0)), (AV.lit (Value.int IntKind.u32 0))])),
(AObj.cells 172 (Cs.av [(AV.sl 10 0 1 1)])),
(AObj.cells 175 (Cs.av [(u64 1), (AV.sl 11 0 1 1)])),
(AObj.cells 215 (Cs.av ([(u64 1), (u64 0), (u64 0), (AV.sl 12 0 1 1)] ++ List.replicate 516 (AV.lit (Value.bool false)) ++ [(AV.lit Value.nilFunc)]))),
(AObj.cells 120 (Cs.av [(AV.lit (Value.slice none 0 0))])),
(AObj.cells 181 (Cs.av [(AV.mp 13), (AV.mp 14), (AV.mp 15), (AV.mp 16), (AV.mp 17), (AV.mp 18), (AV.mp 19), (AV.mp 20)])),
(AObj.cells 218 (Cs.av [(AV.lit (Value.slice none 0 0)), (AV.lit (Value.slice none 0 0)), (AV.lit (Value.slice none 0 0)), (AV.lit (Value.slice none 0 0))])),
(AObj.cells 193 (Cs.av [(AV.lit (Value.slice none 0 0)), (i64 0), (i64 0)])),
(AObj.cells 142 (Cs.av [(AV.sl 21 0 10 10), (i64 2), (i64 2), (i64 1), (i64 0), (i64 0)])),
(AObj.cells 99 (Cs.tr 10 [(i64 0), (AV.lit (Value.bool false)), (AV.lit (Value.bool false)), (AV.lit (Value.bool false)), (AV.lit (Value.bool false)), (AV.lit (Value.bool false)), (AV.lit (Value.bool false)), (AV.lit (Value.bool false)), (AV.lit (Value.bool false)), (i64 0)] (PM.node (PM.node PM.leaf (some (AV.lit (Value.bool true))) (PM.node (PM.node PM.leaf (some (i64 1)) PM.leaf) none PM.leaf)) (some (i64 0)) PM.leaf))),
(AObj.cells 92 (Cs.tr 1 [(u64 0)] (PM.node PM.leaf (some (u64 1)) PM.leaf))),
(AObj.cells 3 (Cs.tr 1 [(i64 0)] PM.leaf)),
(AObj.map [] 0),
(AObj.map [] 0),
(AObj.map [] 0),
(AObj.map [] 0),
(AObj.map [] 0),
(AObj.map [] 0),
(AObj.map [] 0),
(AObj.map [] 0),
(AObj.cells 256 (Cs.tr 1930 (List.replicate 192 (AV.lit (v8 0)) ++ [(AV.lit (Value.bool false))]) (N8 (N8 (N8 (N8 (N8 (N8 (N8 (N8 (L8 0) 0 (L8 0)) 0 (N8 (L8 0) 0 PM.leaf)) 0 (N8 (N8 (L8 0) 0 PM.leaf) 0 (N8 (L8 0) 0 PM.leaf))) 0 (N8 (N8 (N8 (L8 0) 0 PM.leaf) 0 (N8 (L8 0) 0 PM.leaf)) 0 (N8 (N8 (L8 0) 0 PM.leaf) 0 (N8 (L8 0) 0 PM.leaf)))) 0 (N8 (N8 (N8 (N8 (L8 0) 0 PM.leaf) 0 (N8 (L8 0) 0 PM.leaf)) 0 (N8 (N8 (L8 0) 0 PM.leaf) 0 (N8 (L8 0) 0 PM.leaf))) 0 (N8 (N8 (N8 (L8 0) 0 PM.leaf) 0 (N8 (L8 0) 0 PM.leaf)) 0 (N8 (N8 (L8 0) 0 PM.leaf) 0 (N8 (L8 0) 0 PM.leaf))))) 83 (N8 (N8 (N8 (N8 (N8 (L8 0) 83 PM.leaf) 83 (N8 (L8 0) 0 PM.leaf)) 0 (N8 (N8 (L8 0) 0 PM.leaf) 0 (N8 (L8 0) 0 PM.leaf))) 0 (N8 (N8 (N8 (L8 0) 0 PM.leaf) 0 (N8 (L8 0) 0 PM.leaf)) 0 (N8 (N8 (L8 0) 0 PM.leaf) 0 (N8 (L8 0) 0 PM.leaf)))) 78 (N8 (N8 (N8 (N8 (L8 40) 78 PM.leaf) 78 (N8 (L8 40) 40 PM.leaf)) 0 (N8 (N8 (L8 0) 0 PM.leaf) 0 (N8 (L8 0) 0 PM.leaf))) 0 (N8 (N8 (N8 (L8 0) 0 PM.leaf) 0 (N8 (L8 0) 0 PM.leaf)) 0 (N8 (N8 (L8 0) 0 PM.leaf) 0 (N8 (L8 0) 0 PM.leaf)))))) 70 (N8 (N8 (N8 (N8 (N8 (N8 (L8 3) 70 (PM.node PM.leaf (some (AV.lit (Value.bool false))) PM.leaf)) 70 (N8 (L8 3) 3 PM.leaf)) 0 (N8 (N8 (L8 0) 0 PM.leaf) 0 (N8 (L8 0) 0 PM.leaf))) 0 (N8 (N8 (N8 (L8 0) 0 PM.leaf) 0 (N8 (L8 0) 0 PM.leaf)) 0 (N8 (N8 (L8 0) 0 PM.leaf) 0 (N8 (L8 0) 0 PM.leaf)))) 220 (N8 (N8 (N8 (N8 (L8 0) 220 PM.leaf) 220 (N8 (L8 0) 0 PM.leaf)) 0 (N8 (N8 (L8 0) 0 PM.leaf) 0 (N8 (L8 0) 0 PM.leaf))) 0 (N8 (N8 (N8 (L8 0) 0 PM.leaf) 0 (N8 (L8 0) 0 PM.leaf)) 0 (N8 (N8 (L8 0) 0 PM.leaf) 0 (N8 (L8 0) 0 PM.leaf))))) 10 (N8 (N8 (N8 (N8 (N8 (L8 0) 10 PM.leaf) 10 (N8 (L8 0) 0 PM.leaf)) 0 (N8 (N8 (L8 0) 0 PM.leaf) 0 (N8 (L8 0) 0 PM.leaf))) 0 (N8 (N8 (N8 (L8 0) 0 PM.leaf) 0 (N8 (L8 0) 0 PM.leaf)) 0 (N8 (N8 (L8 0) 0 PM.leaf) 0 (N8 (L8 0) 0 PM.leaf)))) 0 (N8 (N8 (N8 (N8 (L8 223) 0 PM.leaf) 0 (N8 (L8 223) 223 PM.leaf)) 0 (N8 (N8 (L8 0) 0 PM.leaf) 0 (N8 (L8 0) 0 PM.leaf))) 0 (N8 (N8 (N8 (L8 0) 0 PM.leaf) 0 (N8 (L8 0) 0 PM.leaf)) 0 (N8 (N8 (L8 0) 0 PM.leaf) 0 (N8 (L8 0) 0 PM.leaf))))))) 4 (N8 (N8 (N8 (N8 (N8 (N8 (N8 (L8 0) 4 (L8 0)) 4 (PM.node (L8 0) (some (AV.lit (Value.bool false))) PM.leaf)) 0 (N8 (N8 (L8 0) 0 PM.leaf) 0 (N8 (L8 0) 0 PM.leaf))) 0 (N8 (N8 (N8 (L8 0) 0 PM.leaf) 0 (N8 (L8 0) 0 PM.leaf)) 0 (N8 (N8 (L8 0) 0 PM.leaf) 0 (N8 (L8 0) 0 PM.leaf)))) 0 (N8 (N8 (N8 (N8 (L8 0) 0 PM.leaf) 0 (N8 (L8 0) 0 PM.leaf)) 0 (N8 (N8 (L8 0) 0 PM.leaf) 0 (N8 (L8 0) 0 PM.leaf))) 0 (N8 (N8 (N8 (L8 0) 0 PM.leaf) 0 (N8 (L8 0) 0 PM.leaf)) 0 (N8 (N8 (L8 0) 0 PM.leaf) 0 (N8 (L8 0) 0 PM.leaf))))) 69 (N8 (N8 (N8 (N8 (N8 (L8 0) 69 PM.leaf) 69 (N8 (L8 0) 0 PM.leaf)) 0 (N8 (N8 (L8 0) 0 PM.leaf) 0 (N8 (L8 0) 0 PM.leaf))) 0 (N8 (N8 (N8 (L8 0) 0 PM.leaf) 0 (N8 (L8 0) 0 PM.leaf)) 0 (N8 (N8 (L8 0) 0 PM.leaf) 0 (N8 (L8 0) 0 PM.leaf)))) 80 (N8 (N8 (N8 (N8 (L8 132) 80 PM.leaf) 80 (N8 (L8 132) 132 PM.leaf)) 0 (N8 (N8 (L8 0) 0 PM.leaf) 0 (N8 (L8 0) 0 PM.leaf))) 0 (N8 (N8 (N8 (L8 0) 0 PM.leaf) 0 (N8 (L8 0) 0 PM.leaf)) 0 (N8 (N8 (L8 0) 0 PM.leaf) 0 (N8 (L8 0) 0 PM.leaf)))))) 85 (N8 (N8 (N8 (N8 (N8 (N8 (L8 0) 85 PM.leaf) 85 (N8 (L8 0) 0 PM.leaf)) 0 (N8 (N8 (L8 0) 0 PM.leaf) 0 (N8 (L8 0) 0 PM.leaf))) 0 (N8 (N8 (N8 (L8 0) 0 PM.leaf) 0 (N8 (L8 0) 0 PM.leaf)) 0 (N8 (N8 (L8 0) 0 PM.leaf) 0 (N8 (L8 0) 0 PM.leaf)))) 5 (N8 (N8 (N8 (N8 (L8 107) 5 PM.leaf) 5 (N8 (L8 107) 107 PM.leaf)) 0 (N8 (N8 (L8 0) 0 PM.leaf) 0 (N8 (L8 0) 0 PM.leaf))) 0 (N8 (N8 (N8 (L8 0) 0 PM.leaf) 0 (N8 (L8 0) 0 PM.leaf)) 0 (N8 (N8 (L8 0) 0 PM.leaf) 0 (N8 (L8 0) 0 PM.leaf))))) 0 (N8 (N8 (N8 (N8 (N8 (L8 0) 0 PM.leaf) 0 (N8 (L8 0) 0 PM.leaf)) 0 (N8 (N8 (L8 0) 0 PM.leaf) 0 (N8 (L8 0) 0 PM.leaf))) 0 (N8 (N8 (N8 (L8 0) 0 PM.leaf) 0 (N8 (L8 0) 0 PM.leaf)) 0 (N8 (N8 (L8 0) 0 PM.leaf) 0 (N8 (L8 0) 0 PM.leaf)))) 0 (N8 (N8 (N8 (N8 (L8 0) 0 PM.leaf) 0 (N8 (L8 0) 0 PM.leaf)) 0 (N8 (N8 (L8 0) 0 PM.leaf) 0 (N8 (L8 0) 0 PM.leaf))) 0 (N8 (N8 (N8 (L8 0) 0 PM.leaf) 0 (N8 (L8 0) 0 PM.leaf)) 0 (N8 (N8 (L8 0) 0 PM.leaf) 0 (N8 (L8 0) 0 PM.leaf))))))))))]
abbrev sSE3M : Nat := 22
def sSE3I : List Nat := [0, 1, 2, 3, 4, 5, 6, 7, 8, 9, 10, 11, 12, 13, 14, 15, 16, 17, 18, 19, 20, 21]
end
end Go.Proofs.YtlocaplkfaepnaaGreat
end
section
/- A closed call, run: fusee/point.Step. -/
namespace Go.Proofs.YtlocaplkfaepnaaGreat
open Go SE
set_option maxRecDepth 100000
noncomputable section
theorem sSE3_look : lookX tblR 55 = none := by kernel_rfl
theorem sSE3_run : runH Tryz.prog tblR tt 2000 40 55 [.ptr 0 0, i64 0, sSE2V] (hO sSE2M sSE2O) (told sSE3I) = .ok (vmap (atL sSE3I) sSE3V, sSE3O.map fun o => some (omap (atL sSE3I) o)) := by kernel_rfl
theorem sSE3_sp : Sp Tryz.prog 55 [.ptr 0 0, i64 0, sSE2V] (hO 1 [packed sSE2M sSE2O]) (fun v h => v = sSE3V ∧ h = hO 1 [packed sSE3M sSE3O]) :=
  stageP tt_ok mixed tblR_ok 2000 40 sSE2M sSE2O sSE3M sSE3I sSE3V sSE3O sSE3_look sSE3_run (by kernel_rfl) (by kernel_rfl) (by kernel_rfl)
end
end Go.Proofs.YtlocaplkfaepnaaGreat
end
section
/- What a closed call yields, and the memory behind it: fusee/point.Step. -/
namespace Go.Proofs.YtlocaplkfaepnaaGreat
open Go SE
set_option maxRecDepth 100000
noncomputable section
def sSE4V : AV := (AV.agg [(i64 2), (AV.lit (Value.string (bs [97]))), (AV.lit (Value.string (bs [49]))), (AV.lit (Value.string (bs []))), (AV.lit (Value.slice none 0 0)), (i64 5), (u64 1), (AV.lit (Value.string (bs []))), (AV.lit (Value.bool false)), (i64 0), (AV.lit (Value.bool false)), (AV.lit (Value.string (bs []))), (u64 0), (u64 0), (i64 0), (i64 0), (i64 2), (i64 0), (i64 0), (AV.lit (Value.slice none 0 0)), (i64 0), (AV.lit (Value.slice none 0 0)), (i64 0), (AV.lit (Value.bool false)), (AV.lit (Value.string (bs []))), (AV.lit (Value.slice none 0 0)), (AV.lit (Value.slice none 0 0)), (u64 0)])
def sSE4O : List AObj := [
(AObj.cells 94 (Cs.av [(AV.ptr 1 0), (AV.ptr 2 0), (AV.ptr 3 0), (AV.ptr 4 0), (AV.ptr 5 0), (AV.ptr 6 0), (AV.ptr 7 0), (AV.ptr 8 0), (u64 0), (u64 0), (AV.lit (Value.slice none 0 0))])),
(AObj.cells 161 (Cs.av [(AV.ptr 9 0), (AV.lit (Value.int IntKind.u32 1)), (AV.lit (Value.int IntKind.i32 0)), (AV.lit (Value.int IntKind.u32 0))])),
(AObj.cells 172 (Cs.av [(AV.sl 10 0 1 1)])),
(AObj.cells 175 (Cs.av [(u64 1), (AV.sl 11 0 1 1)])),
(AObj.cells 215 (Cs.av ([(u64 1), (u64 0), (u64 0), (AV.sl 12 0 1 1)] ++ List.replicate 516 (AV.lit (Value.bool false)) ++ [(AV.lit Value.nilFunc)]))),
(AObj.cells 120 (Cs.av [(AV.lit (Value.slice none 0 0))])),
(AObj.cells 181 (Cs.av [(AV.mp 13), (AV.mp 14), (AV.mp 15), (AV.mp 16), (AV.mp 17), (AV.mp 18), (AV.mp 19), (AV.mp 20)])),
(AObj.cells 218 (Cs.av [(AV.lit (Value.slice none 0 0)), (AV.lit (Value.slice none 0 0)), (AV.lit (Value.slice none 0 0)), (AV.lit (Value.slice none 0 0))])),
(AObj.cells 193 (Cs.av [(AV.lit (Value.slice none 0 0)), (i64 0), (i64 0)])),
(AObj.cells 142 (Cs.av [(AV.sl 21 0 10 10), (i64 3), (i64 2), (i64 1), (i64 0), (i64 0)])),
(AObj.cells 99 (Cs.tr 10 [(i64 0), (AV.lit (Value.bool false)), (AV.lit (Value.bool false)), (AV.lit (Value.bool false)), (AV.lit (Value.bool false)), (AV.lit (Value.bool false)), (AV.lit (Value.bool false)), (AV.lit (Value.bool false)), (AV.lit (Value.bool false)), (i64 0)] (PM.node (PM.node PM.leaf (some (AV.lit (Value.bool true))) (PM.node (PM.node PM.leaf (some (i64 1)) PM.leaf) none PM.leaf)) (some (i64 0)) PM.leaf))),
(AObj.cells 92 (Cs.tr 1 [(u64 0)] (PM.node PM.leaf (some (u64 1)) PM.leaf))),
(AObj.cells 3 (Cs.tr 1 [(i64 0)] PM.leaf)),
(AObj.map [] 0),
(AObj.map [] 0),
(AObj.map [] 0),
(AObj.map [] 0),
(AObj.map [] 0),
(AObj.map [] 0),
(AObj.map [] 0),
(AObj.map [] 0),
(AObj.cells 256 (Cs.tr 1930 (List.replicate 192 (AV.lit (v8 0)) ++ [(AV.lit (Value.bool false))]) (N8 (N8 (N8 (N8 (N8 (N8 (N8 (N8 (L8 0) 0 (L8 0)) 0 (N8 (L8 0) 0 (L8 0))) 0 (N8 (N8 (L8 0) 0 (L8 0)) 0 (N8 (L8 0) 0 PM.leaf))) 0 (N8 (N8 (N8 (L8 0) 0 (L8 0)) 0 (N8 (L8 0) 0 PM.leaf)) 0 (N8 (N8 (L8 0) 0 (L8 0)) 0 (N8 (L8 0) 0 PM.leaf)))) 0 (N8 (N8 (N8 (N8 (L8 0) 0 (L8 0)) 0 (N8 (L8 0) 0 PM.leaf)) 0 (N8 (N8 (L8 0) 0 (L8 0)) 0 (N8 (L8 0) 0 PM.leaf))) 0 (N8 (N8 (N8 (L8 0) 0 (L8 0)) 0 (N8 (L8 0) 0 PM.leaf)) 0 (N8 (N8 (L8 0) 0 (L8 0)) 0 (N8 (L8 0) 0 PM.leaf))))) 83 (N8 (N8 (N8 (N8 (N8 (L8 0) 83 (L8 0)) 83 (N8 (L8 0) 0 PM.leaf)) 0 (N8 (N8 (L8 0) 0 (L8 7)) 0 (N8 (L8 0) 0 PM.leaf))) 0 (N8 (N8 (N8 (L8 0) 0 (L8 0)) 0 (N8 (L8 0) 0 PM.leaf)) 0 (N8 (N8 (L8 0) 0 (L8 0)) 0 (N8 (L8 0) 0 PM.leaf)))) 78 (N8 (N8 (N8 (N8 (L8 40) 78 (L8 0)) 78 (N8 (L8 40) 40 PM.leaf)) 0 (N8 (N8 (L8 0) 0 (L8 0)) 0 (N8 (L8 0) 0 PM.leaf))) 0 (N8 (N8 (N8 (L8 0) 0 (L8 0)) 0 (N8 (L8 0) 0 PM.leaf)) 0 (N8 (N8 (L8 0) 0 (L8 0)) 0 (N8 (L8 0) 0 PM.leaf)))))) 70 (N8 (N8 (N8 (N8 (N8 (N8 (L8 3) 70 (PM.node PM.leaf (some (AV.lit (Value.bool false))) PM.leaf)) 70 (N8 (L8 3) 3 (L8 0))) 0 (N8 (N8 (L8 0) 0 (L8 0)) 0 (N8 (L8 0) 0 PM.leaf))) 0 (N8 (N8 (N8 (L8 0) 0 (L8 0)) 0 (N8 (L8 0) 0 PM.leaf)) 0 (N8 (N8 (L8 0) 0 (L8 0)) 0 (N8 (L8 0) 0 PM.leaf)))) 220 (N8 (N8 (N8 (N8 (L8 0) 220 (L8 0)) 220 (N8 (L8 0) 0 PM.leaf)) 0 (N8 (N8 (L8 0) 0 (L8 0)) 0 (N8 (L8 0) 0 PM.leaf))) 0 (N8 (N8 (N8 (L8 0) 0 (L8 0)) 0 (N8 (L8 0) 0 PM.leaf)) 0 (N8 (N8 (L8 0) 0 (L8 0)) 0 (N8 (L8 0) 0 PM.leaf))))) 10 (N8 (N8 (N8 (N8 (N8 (L8 0) 10 (L8 0)) 10 (N8 (L8 0) 0 PM.leaf)) 0 (N8 (N8 (L8 0) 0 (L8 206)) 0 (N8 (L8 0) 0 PM.leaf))) 0 (N8 (N8 (N8 (L8 0) 0 (L8 0)) 0 (N8 (L8 0) 0 PM.leaf)) 0 (N8 (N8 (L8 0) 0 (L8 0)) 0 (N8 (L8 0) 0 PM.leaf)))) 0 (N8 (N8 (N8 (N8 (L8 223) 0 (L8 0)) 0 (N8 (L8 223) 223 PM.leaf)) 0 (N8 (N8 (L8 0) 0 (L8 0)) 0 (N8 (L8 0) 0 PM.leaf))) 0 (N8 (N8 (N8 (L8 0) 0 (L8 0)) 0 (N8 (L8 0) 0 PM.leaf)) 0 (N8 (N8 (L8 0) 0 (L8 0)) 0 (N8 (L8 0) 0 PM.leaf))))))) 4 (N8 (N8 (N8 (N8 (N8 (N8 (N8 (L8 0) 4 (L8 0)) 4 (PM.node (L8 0) (some (AV.lit (Value.bool false))) (L8 0))) 0 (N8 (N8 (L8 0) 0 (L8 0)) 0 (N8 (L8 0) 0 PM.leaf))) 0 (N8 (N8 (N8 (L8 0) 0 (L8 0)) 0 (N8 (L8 0) 0 PM.leaf)) 0 (N8 (N8 (L8 0) 0 (L8 0)) 0 (N8 (L8 0) 0 PM.leaf)))) 0 (N8 (N8 (N8 (N8 (L8 0) 0 (L8 0)) 0 (N8 (L8 0) 0 PM.leaf)) 0 (N8 (N8 (L8 0) 0 (L8 0)) 0 (N8 (L8 0) 0 PM.leaf))) 0 (N8 (N8 (N8 (L8 0) 0 (L8 0)) 0 (N8 (L8 0) 0 PM.leaf)) 0 (N8 (N8 (L8 0) 0 (L8 0)) 0 (N8 (L8 0) 0 PM.leaf))))) 69 (N8 (N8 (N8 (N8 (N8 (L8 0) 69 (L8 0)) 69 (N8 (L8 0) 0 PM.leaf)) 0 (N8 (N8 (L8 0) 0 (L8 193)) 0 (N8 (L8 0) 0 PM.leaf))) 0 (N8 (N8 (N8 (L8 0) 0 (L8 0)) 0 (N8 (L8 0) 0 PM.leaf)) 0 (N8 (N8 (L8 0) 0 (L8 0)) 0 (N8 (L8 0) 0 PM.leaf)))) 80 (N8 (N8 (N8 (N8 (L8 132) 80 (L8 0)) 80 (N8 (L8 132) 132 PM.leaf)) 0 (N8 (N8 (L8 0) 0 (L8 0)) 0 (N8 (L8 0) 0 PM.leaf))) 0 (N8 (N8 (N8 (L8 0) 0 (L8 0)) 0 (N8 (L8 0) 0 PM.leaf)) 0 (N8 (N8 (L8 0) 0 (L8 0)) 0 (N8 (L8 0) 0 PM.leaf)))))) 85 (N8 (N8 (N8 (N8 (N8 (N8 (L8 0) 85 (L8 1)) 85 (N8 (L8 0) 0 PM.leaf)) 0 (N8 (N8 (L8 0) 0 (L8 135)) 0 (N8 (L8 0) 0 PM.leaf))) 0 (N8 (N8 (N8 (L8 0) 0 (L8 0)) 0 (N8 (L8 0) 0 PM.leaf)) 0 (N8 (N8 (L8 0) 0 (L8 0)) 0 (N8 (L8 0) 0 PM.leaf)))) 5 (N8 (N8 (N8 (N8 (L8 107) 5 (L8 0)) 5 (N8 (L8 107) 107 PM.leaf)) 0 (N8 (N8 (L8 0) 0 (L8 0)) 0 (N8 (L8 0) 0 PM.leaf))) 0 (N8 (N8 (N8 (L8 0) 0 (L8 0)) 0 (N8 (L8 0) 0 PM.leaf)) 0 (N8 (N8 (L8 0) 0 (L8 0)) 0 (N8 (L8 0) 0 PM.leaf))))) 0 (N8 (N8 (N8 (N8 (N8 (L8 0) 0 (L8 0)) 0 (N8 (L8 0) 0 PM.leaf)) 0 (N8 (N8 (L8 0) 0 (L8 0)) 0 (N8 (L8 0) 0 PM.leaf))) 0 (N8 (N8 (N8 (L8 0) 0 (L8 0)) 0 (N8 (L8 0) 0 PM.leaf)) 0 (N8 (N8 (L8 0) 0 (L8 0)) 0 (N8 (L8 0) 0 PM.leaf)))) 0 (N8 (N8 (N8 (N8 (L8 0) 0 (L8 0)) 0 (N8 (L8 0) 0 PM.leaf)) 0 (N8 (N8 (L8 0) 0 (L8 0)) 0 (N8 (L8 0) 0 PM.leaf))) 0 (N8 (N8 (N8 (L8 0) 0 (L8 0)) 0 (N8 (L8 0) 0 PM.leaf)) 0 (N8 (N8 (L8 0) 0 (L8 0)) 0 (N8 (L8 0) 0 PM.leaf))))))))))]
abbrev sSE4M : Nat := 22
def sSE4I : List Nat := [0, 1, 2, 3, 4, 5, 6, 7, 8, 9, 10, 11, 12, 13, 14, 15, 16, 17, 18, 19, 20, 21]
end
end Go.Proofs.YtlocaplkfaepnaaGreat
end
section
/- A closed call, run: fusee/point.Step. -/
namespace Go.Proofs.YtlocaplkfaepnaaGreat
open Go SE
set_option maxRecDepth 100000
noncomputable section
theorem sSE4_look : lookX tblR 55 = none := by kernel_rfl
theorem sSE4_run : runH Tryz.prog tblR tt 2000 40 55 [.ptr 0 0, i64 0, sSE3V] (hO sSE3M sSE3O) (told sSE4I) = .ok (vmap (atL sSE4I) sSE4V, sSE4O.map fun o => some (omap (atL sSE4I) o)) := by kernel_rfl
theorem sSE4_sp : Sp Tryz.prog 55 [.ptr 0 0, i64 0, sSE3V] (hO 1 [packed sSE3M sSE3O]) (fun v h => v = sSE4V ∧ h = hO 1 [packed sSE4M sSE4O]) :=
  stageP tt_ok mixed tblR_ok 2000 40 sSE3M sSE3O sSE4M sSE4I sSE4V sSE4O sSE4_look sSE4_run (by kernel_rfl) (by kernel_rfl) (by kernel_rfl)
end
end Go.Proofs.YtlocaplkfaepnaaGreat
end
section
/- What a closed call yields, and the memory behind it: fusee/point.Step. -/
namespace Go.Proofs.YtlocaplkfaepnaaGreat
open Go SE
set_option maxRecDepth 100000
noncomputable section
def sSE5V : AV := (AV.agg [(i64 2), (AV.lit (Value.string (bs [97]))), (AV.lit (Value.string (bs [49]))), (AV.lit (Value.string (bs []))), (AV.lit (Value.slice none 0 0)), (i64 6), (u64 1), (AV.lit (Value.string (bs []))), (AV.lit (Value.bool false)), (i64 0), (AV.lit (Value.bool false)), (AV.lit (Value.string (bs []))), (u64 0), (u64 0), (i64 0), (i64 0), (i64 (-0 - 1)), (i64 0), (i64 0), (AV.lit (Value.slice none 0 0)), (i64 0), (AV.lit (Value.slice none 0 0)), (i64 0), (AV.lit (Value.bool false)), (AV.lit (Value.string (bs []))), (AV.lit (Value.slice none 0 0)), (AV.lit (Value.slice none 0 0)), (u64 1)])
def sSE5O : List AObj := [
(AObj.cells 94 (Cs.av [(AV.ptr 1 0), (AV.ptr 2 0), (AV.ptr 3 0), (AV.ptr 4 0), (AV.ptr 5 0), (AV.ptr 6 0), (AV.ptr 7 0), (AV.ptr 8 0), (u64 1), (u64 1), (AV.slU 9 0 1 7)])),
(AObj.cells 161 (Cs.av [(AV.ptr 10 0), (AV.lit (Value.int IntKind.u32 1)), (AV.lit (Value.int IntKind.i32 0)), (AV.lit (Value.int IntKind.u32 0))])),
(AObj.cells 172 (Cs.av [(AV.sl 11 0 1 1)])),
(AObj.cells 175 (Cs.av [(u64 1), (AV.sl 12 0 1 1)])),
(AObj.cells 215 (Cs.av ([(u64 1), (u64 0), (u64 0), (AV.sl 13 0 1 1), (AV.lit (Value.bool false)), (AV.lit (Value.bool false)), (AV.lit (Value.bool true))] ++ List.replicate 513 (AV.lit (Value.bool false)) ++ [(AV.lit Value.nilFunc)]))),
(AObj.cells 120 (Cs.av [(AV.lit (Value.slice none 0 0))])),
(AObj.cells 181 (Cs.av [(AV.mp 14), (AV.mp 15), (AV.mp 16), (AV.mp 17), (AV.mp 18), (AV.mp 19), (AV.mp 20), (AV.mp 21)])),
(AObj.cells 218 (Cs.av [(AV.slU 22 0 1 5), (AV.slU 23 0 1 5), (AV.slU 24 0 1 5), (AV.slU 25 0 1 5)])),
(AObj.cells 193 (Cs.av [(AV.lit (Value.slice none 0 0)), (i64 0), (i64 0)])),
(AObj.room 117 (Cs.av [(i64 1), (AV.lit (Value.string (bs [97]))), (AV.lit (Value.string (bs [49]))), (u64 1), (u64 1), (u64 1), (i64 1)])),
(AObj.cells 142 (Cs.av [(AV.sl 26 0 10 10), (i64 4), (i64 2), (i64 1), (i64 0), (i64 0)])),
(AObj.cells 99 (Cs.tr 10 [(i64 0), (AV.lit (Value.bool false)), (AV.lit (Value.bool false)), (AV.lit (Value.bool false)), (AV.lit (Value.bool false)), (AV.lit (Value.bool false)), (AV.lit (Value.bool false)), (AV.lit (Value.bool false)), (AV.lit (Value.bool false)), (i64 0)] (PM.node (PM.node PM.leaf (some (AV.lit (Value.bool true))) (PM.node (PM.node PM.leaf (some (i64 1)) PM.leaf) none PM.leaf)) (some (i64 0)) PM.leaf))),
(AObj.cells 92 (Cs.tr 1 [(u64 0)] (PM.node PM.leaf (some (u64 1)) PM.leaf))),
(AObj.cells 3 (Cs.tr 1 [(i64 0)] (PM.node PM.leaf (some (i64 1)) PM.leaf))),
(AObj.map [] 0),
(AObj.map [] 0),
(AObj.map [] 0),
(AObj.map [((AV.lit (Value.string (bs [97]))), ((AV.agg [(AV.lit (Value.string (bs [97]))), (u64 1), (u64 1), (i64 2), (i64 0)]), 0))] 1),
(AObj.map [] 0),
(AObj.map [] 0),
(AObj.map [] 0),
(AObj.map [] 0),
(AObj.room 66 (Cs.av [(AV.lit (Value.string (bs [97]))), (u64 1), (u64 1), (i64 2), (i64 0)])),
(AObj.room 66 (Cs.av [(AV.lit (Value.string (bs [97]))), (u64 1), (u64 1), (i64 2), (i64 0)])),
(AObj.room 66 (Cs.av [(AV.lit (Value.string (bs [97]))), (u64 1), (u64 1), (i64 2), (i64 0)])),
(AObj.room 66 (Cs.av [(AV.lit (Value.string (bs [97]))), (u64 1), (u64 1), (i64 2), (i64 0)])),
(AObj.cells 256 (Cs.tr 1930 (List.replicate 192 (AV.lit (v8 0)) ++ [(AV.lit (Value.bool false))]) (N8 (N8 (N8 (N8 (N8 (N8 (N8 (N8 (L8 0) 0 (L8 0)) 0 (N8 (L8 0) 0 (L8 0))) 0 (N8 (N8 (L8 0) 0 (L8 0)) 0 (N8 (L8 0) 0 PM.leaf))) 0 (N8 (N8 (N8 (L8 0) 0 (L8 0)) 0 (N8 (L8 0) 0 PM.leaf)) 0 (N8 (N8 (L8 0) 0 (L8 0)) 0 (N8 (L8 0) 0 PM.leaf)))) 0 (N8 (N8 (N8 (N8 (L8 0) 0 (L8 0)) 0 (N8 (L8 0) 0 PM.leaf)) 0 (N8 (N8 (L8 0) 0 (L8 49)) 0 (N8 (L8 0) 0 PM.leaf))) 0 (N8 (N8 (N8 (L8 0) 0 (L8 0)) 0 (N8 (L8 0) 0 PM.leaf)) 0 (N8 (N8 (L8 0) 0 (L8 0)) 0 (N8 (L8 0) 0 PM.leaf))))) 83 (N8 (N8 (N8 (N8 (N8 (L8 0) 83 (L8 0)) 83 (N8 (L8 0) 0 PM.leaf)) 0 (N8 (N8 (L8 0) 0 (L8 38)) 0 (N8 (L8 0) 0 PM.leaf))) 0 (N8 (N8 (N8 (L8 0) 0 (L8 0)) 0 (N8 (L8 0) 0 PM.leaf)) 0 (N8 (N8 (L8 0) 0 (L8 0)) 0 (N8 (L8 0) 0 PM.leaf)))) 78 (N8 (N8 (N8 (N8 (L8 40) 78 (L8 0)) 78 (N8 (L8 40) 40 PM.leaf)) 0 (N8 (N8 (L8 0) 0 (L8 0)) 0 (N8 (L8 0) 0 PM.leaf))) 0 (N8 (N8 (N8 (L8 0) 0 (L8 0)) 0 (N8 (L8 0) 0 PM.leaf)) 0 (N8 (N8 (L8 0) 0 (L8 0)) 0 (N8 (L8 0) 0 PM.leaf)))))) 70 (N8 (N8 (N8 (N8 (N8 (N8 (L8 3) 70 (PM.node PM.leaf (some (AV.lit (Value.bool false))) PM.leaf)) 70 (N8 (L8 3) 3 (L8 0))) 0 (N8 (N8 (L8 0) 0 (L8 0)) 0 (N8 (L8 0) 0 PM.leaf))) 0 (N8 (N8 (N8 (L8 0) 0 (L8 0)) 0 (N8 (L8 0) 0 PM.leaf)) 0 (N8 (N8 (L8 0) 0 (L8 0)) 0 (N8 (L8 0) 0 PM.leaf)))) 220 (N8 (N8 (N8 (N8 (L8 0) 220 (L8 0)) 220 (N8 (L8 0) 0 PM.leaf)) 0 (N8 (N8 (L8 0) 0 (L8 0)) 0 (N8 (L8 0) 0 PM.leaf))) 0 (N8 (N8 (N8 (L8 0) 0 (L8 0)) 0 (N8 (L8 0) 0 PM.leaf)) 0 (N8 (N8 (L8 0) 0 (L8 0)) 0 (N8 (L8 0) 0 PM.leaf))))) 10 (N8 (N8 (N8 (N8 (N8 (L8 0) 10 (L8 1)) 10 (N8 (L8 0) 0 PM.leaf)) 0 (N8 (N8 (L8 0) 0 (L8 129)) 0 (N8 (L8 0) 0 PM.leaf))) 0 (N8 (N8 (N8 (L8 0) 0 (L8 0)) 0 (N8 (L8 0) 0 PM.leaf)) 0 (N8 (N8 (L8 0) 0 (L8 0)) 0 (N8 (L8 0) 0 PM.leaf)))) 0 (N8 (N8 (N8 (N8 (L8 223) 0 (L8 0)) 0 (N8 (L8 223) 223 PM.leaf)) 0 (N8 (N8 (L8 0) 0 (L8 0)) 0 (N8 (L8 0) 0 PM.leaf))) 0 (N8 (N8 (N8 (L8 0) 0 (L8 0)) 0 (N8 (L8 0) 0 PM.leaf)) 0 (N8 (N8 (L8 0) 0 (L8 0)) 0 (N8 (L8 0) 0 PM.leaf))))))) 4 (N8 (N8 (N8 (N8 (N8 (N8 (N8 (L8 0) 4 (L8 0)) 4 (PM.node (L8 0) (some (AV.lit (Value.bool false))) (L8 0))) 0 (N8 (N8 (L8 0) 0 (L8 0)) 0 (N8 (L8 0) 0 PM.leaf))) 0 (N8 (N8 (N8 (L8 0) 0 (L8 0)) 0 (N8 (L8 0) 0 PM.leaf)) 0 (N8 (N8 (L8 0) 0 (L8 0)) 0 (N8 (L8 0) 0 PM.leaf)))) 0 (N8 (N8 (N8 (N8 (L8 0) 0 (L8 0)) 0 (N8 (L8 0) 0 PM.leaf)) 0 (N8 (N8 (L8 0) 0 (L8 0)) 0 (N8 (L8 0) 0 PM.leaf))) 0 (N8 (N8 (N8 (L8 0) 0 (L8 0)) 0 (N8 (L8 0) 0 PM.leaf)) 0 (N8 (N8 (L8 0) 0 (L8 0)) 0 (N8 (L8 0) 0 PM.leaf))))) 69 (N8 (N8 (N8 (N8 (N8 (L8 0) 69 (L8 1)) 69 (N8 (L8 0) 0 PM.leaf)) 0 (N8 (N8 (L8 0) 0 (L8 201)) 0 (N8 (L8 0) 0 PM.leaf))) 0 (N8 (N8 (N8 (L8 0) 0 (L8 0)) 0 (N8 (L8 0) 0 PM.leaf)) 0 (N8 (N8 (L8 0) 0 (L8 0)) 0 (N8 (L8 0) 0 PM.leaf)))) 80 (N8 (N8 (N8 (N8 (L8 132) 80 (L8 0)) 80 (N8 (L8 132) 132 PM.leaf)) 0 (N8 (N8 (L8 0) 0 (L8 0)) 0 (N8 (L8 0) 0 PM.leaf))) 0 (N8 (N8 (N8 (L8 0) 0 (L8 0)) 0 (N8 (L8 0) 0 PM.leaf)) 0 (N8 (N8 (L8 0) 0 (L8 0)) 0 (N8 (L8 0) 0 PM.leaf)))))) 85 (N8 (N8 (N8 (N8 (N8 (N8 (L8 0) 85 (L8 1)) 85 (N8 (L8 0) 0 PM.leaf)) 0 (N8 (N8 (L8 0) 0 (L8 30)) 0 (N8 (L8 0) 0 PM.leaf))) 0 (N8 (N8 (N8 (L8 0) 0 (L8 1)) 0 (N8 (L8 0) 0 PM.leaf)) 0 (N8 (N8 (L8 0) 0 (L8 0)) 0 (N8 (L8 0) 0 PM.leaf)))) 5 (N8 (N8 (N8 (N8 (L8 107) 5 (L8 1)) 5 (N8 (L8 107) 107 PM.leaf)) 0 (N8 (N8 (L8 0) 0 (L8 0)) 0 (N8 (L8 0) 0 PM.leaf))) 0 (N8 (N8 (N8 (L8 0) 0 (L8 1)) 0 (N8 (L8 0) 0 PM.leaf)) 0 (N8 (N8 (L8 0) 0 (L8 0)) 0 (N8 (L8 0) 0 PM.leaf))))) 0 (N8 (N8 (N8 (N8 (N8 (L8 0) 0 (L8 1)) 0 (N8 (L8 0) 0 PM.leaf)) 0 (N8 (N8 (L8 0) 0 (L8 97)) 0 (N8 (L8 0) 0 PM.leaf))) 0 (N8 (N8 (N8 (L8 0) 0 (L8 0)) 0 (N8 (L8 0) 0 PM.leaf)) 0 (N8 (N8 (L8 0) 0 (L8 0)) 0 (N8 (L8 0) 0 PM.leaf)))) 0 (N8 (N8 (N8 (N8 (L8 0) 0 (L8 0)) 0 (N8 (L8 0) 0 PM.leaf)) 0 (N8 (N8 (L8 0) 0 (L8 0)) 0 (N8 (L8 0) 0 PM.leaf))) 0 (N8 (N8 (N8 (L8 0) 0 (L8 0)) 0 (N8 (L8 0) 0 PM.leaf)) 0 (N8 (N8 (L8 0) 0 (L8 0)) 0 (N8 (L8 0) 0 PM.leaf))))))))))]
abbrev sSE5M : Nat := 27
def sSE5I : List Nat := [0, 1, 2, 3, 4, 5, 6, 7, 8, 114, 9, 10, 11, 12, 13, 14, 15, 16, 17, 18, 19, 20, 106, 108, 110, 112, 21]
end
end Go.Proofs.YtlocaplkfaepnaaGreat
end
