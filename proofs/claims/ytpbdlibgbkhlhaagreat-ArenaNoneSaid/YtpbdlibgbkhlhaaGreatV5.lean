/- What is asked of an operation names one value; it depends on its operands alone. -/
import Derived.Test.YtpbdlibgbkhlhaaGreatV4
namespace Go.Proofs.YtpbdlibgbkhlhaaGreat.SE
open Go

theorem cP_det {α : Type} {b : Bool} {F G : (α → Prop) → Prop} {Q : α → Prop} (hF : F Q → ∃ v, Q v ∧ F (fun r => r = v)) (hG : G Q → ∃ v, Q v ∧ G (fun r => r = v)) (h : cP b (F Q) (G Q)) : ∃ v, Q v ∧ cP b (F (fun r => r = v)) (G (fun r => r = v)) := by
  cases b with
  | true => exact hF h
  | false => exact hG h
theorem opt_det {α : Type} {o : Option α} {Q : α → Prop} (h : match o with | some v => Q v | none => False) : ∃ v, Q v ∧ match o with | some r => r = v | none => False := by
  cases o with
  | none => exact h.elim
  | some v => exact ⟨v, h, rfl⟩
theorem arith_det {k : IntKind} {z : Int} {Q : AV → Prop} (h : arith k z Q) : ∃ v, Q v ∧ arith k z (fun r => r = v) := by
  cases k <;> first | exact ⟨_, h, rfl⟩ | exact ⟨_, h.2, h.1, rfl⟩
theorem vInt_det {op : BinOp} {k k' : IntKind} {a b : Int} {Q : AV → Prop} (h : vInt op k a k' b Q) : ∃ v, Q v ∧ vInt op k a k' b (fun r => r = v) := by
  by_cases hk : k = k'
  · subst hk
    cases op <;> simp only [vInt] at h ⊢
    case shl => exact ⟨_, h.2, h.1, rfl⟩
    case shr => exact ⟨_, h.2, h.1, rfl⟩
    case add => simp only [if_true] at h ⊢; exact arith_det h
    case sub => simp only [if_true] at h ⊢; exact arith_det h
    case mul => simp only [if_true] at h ⊢; exact arith_det h
    case quo => simp only [if_true] at h ⊢; obtain ⟨v, h1, h2⟩ := arith_det h.2; exact ⟨v, h1, h.1, h2⟩
    case rem => simp only [if_true] at h ⊢; exact ⟨_, h.2, h.1, rfl⟩
    all_goals
      simp only [if_true, intN] at h ⊢
    all_goals exact ⟨_, h, rfl⟩
  · cases op <;> simp only [vInt] at h ⊢
    case shl => exact ⟨_, h.2, h.1, rfl⟩
    case shr => exact ⟨_, h.2, h.1, rfl⟩
    all_goals
      simp only [if_neg hk] at h
theorem vStr_det {op : BinOp} {a b : ByteArray} {Q : AV → Prop} (h : vStr op a b Q) : ∃ v, Q v ∧ vStr op a b (fun r => r = v) := by
  cases op <;> simp only [vStr] at h ⊢
  case add => exact ⟨_, h.2, h.1, rfl⟩
  all_goals
    simp only [strN] at h ⊢
  all_goals exact ⟨_, h, rfl⟩
theorem vBin_det {tt : TT} {op : BinOp} {t : TypeId} {x y : AV} {Q : AV → Prop} (h : vBin tt op t x y Q) : ∃ v, Q v ∧ vBin tt op t x y (fun r => r = v) := by
  unfold vBin at h ⊢
  split at h
  · exact vInt_det h
  · split at h
    · exact vStr_det h
    · split at h
      · exact ⟨_, h, rfl⟩
      · exact h.elim
theorem vConv_det {tt : TT} {s d : TypeId} {x : AV} {Q : AV → Prop} (h : vConv tt s d x Q) : ∃ v, Q v ∧ vConv tt s d x (fun r => r = v) := by
  unfold vConv at h ⊢
  split at h
  · split at h
    · exact arith_det h
    · exact ⟨_, h, rfl⟩
    · exact h.elim
  · exact h.elim
theorem vB_mono {x : Option AV} {d : Nat} {α : Type} {F : (α → Prop) → Nat → Prop} {Q : α → Prop} (hF : ∀ k, F Q k → ∃ v, Q v ∧ F (fun r => r = v) k) (h : vB x d (F Q)) : ∃ v, Q v ∧ vB x d (F (fun r => r = v)) := by
  unfold vB at h ⊢
  split at h
  · exact hF _ h
  · obtain ⟨v, h1, h2⟩ := hF _ h.2
    exact ⟨v, h1, h.1, h2⟩
  · exact h.elim
theorem vBnds_det {n c : Nat} {lo hi mx : Option AV} {f : Nat → Nat → Nat → AV} {Q : AV → Prop} (h : vBnds n c lo hi mx fun l h m => Q (f l h m)) : ∃ v, Q v ∧ vBnds n c lo hi mx fun l h m => f l h m = v := by
  unfold vBnds at h ⊢
  split at h
  · exact h.elim
  · exact vB_mono (x := mx) (d := c) (Q := Q) (F := fun Q m => vB hi n fun h => vB lo 0 fun l => (l ≤ h ∧ h ≤ m ∧ m ≤ c) ∧ Q (f l h m)) (fun m h => vB_mono (F := fun Q h => vB lo 0 fun l => (l ≤ h ∧ h ≤ m ∧ m ≤ c) ∧ Q (f l h m)) (fun h hh =>
      vB_mono (F := fun Q l => (l ≤ h ∧ h ≤ m ∧ m ≤ c) ∧ Q (f l h m)) (fun l hl => ⟨_, hl.2, hl.1, rfl⟩) hh) h) h
theorem bif_det {b : Bool} {x y : AV} {Q : AV → Prop} (h : bif b then Q x else Q y) : ∃ v, Q v ∧ bif b then x = v else y = v := by
  cases b with
  | true => exact ⟨_, h, rfl⟩
  | false => exact ⟨_, h, rfl⟩
theorem bif_det2 {α : Type} {b : Bool} {F G : (α → Prop) → Prop} {Q : α → Prop} (hF : F Q → ∃ v, Q v ∧ F (fun r => r = v)) (hG : G Q → ∃ v, Q v ∧ G (fun r => r = v)) (h : bif b then F Q else G Q) : ∃ v, Q v ∧ bif b then F (fun r => r = v) else G (fun r => r = v) := by
  cases b with
  | true => exact hF h
  | false => exact hG h
theorem vSlice_det {tt : TT} {t : TypeId} {x : AV} {lo hi mx : Option AV} {hp : Heap} {Q : AV → Prop} (h : vSlice tt t x lo hi mx hp Q) : ∃ v, Q v ∧ vSlice tt t x lo hi mx hp (fun r => r = v) := by
  unfold vSlice at h ⊢
  split at h
  · split at h
    · split at h
      · exact vBnds_det (f := fun l h _ => .lit (.string (ByteArray.extract _ l h))) h
      · exact h.elim
    · split at h
      · exact bif_det2 (F := fun Q => cutE _ _ _ _ _ _ _ _ Q) (G := fun _ => False) (fun h => vBnds_det h) (fun h => h.elim) h
      · exact h.elim
    · rename_i i q m n _
      split at h
      · rename_i te hte
        cases hb : Nat.beq m te.size with
        | false => rw [hb] at h; exact h.elim
        | true =>
          rw [hb] at h
          simp only [cond_true] at h ⊢
          split at h
          · exact vBnds_det (f := fun l h _ => .slW i (q + l) m (h - l)) h
          · exact vBnds_det h
      · exact h.elim
    · rename_i i q m n _
      split at h
      · rename_i te hte
        cases hb : Nat.beq m te.size with
        | false => rw [hb] at h; exact h.elim
        | true =>
          rw [hb] at h
          simp only [cond_true] at h ⊢
          exact vBnds_det (f := fun l h _ => .slR i (q + l) m (h - l)) h
      · exact h.elim
    · rename_i i o n c _
      split at h
      · rename_i te hte
        cases hb : (Nat.beq o 0 && Nat.beq (rowM hp i) te.size) with
        | true => rw [hb] at h; exact vBnds_det h
        | false =>
          rw [hb] at h
          simp only [cond_false] at h ⊢
          split at h
          · exact ⟨_, h, rfl⟩
          · exact h.elim
      · exact h.elim
    · rename_i i o n sz _
      split at h
      · rename_i te hte
        cases hb : (Nat.beq o 0 && Nat.beq (rowM hp i) te.size && Nat.beq sz te.size) with
        | true =>
          rw [hb] at h
          simp only [cond_true] at h ⊢
          split at h
          · exact vBnds_det (f := fun l h _ => .slW i l te.size (h - l)) h
          · exact vBnds_det h
        | false =>
          rw [hb] at h
          simp only [cond_false] at h ⊢
          split at h
          · exact ⟨_, h, rfl⟩
          · exact h.elim
      · exact h.elim
    · split at h
      · exact vBnds_det (f := fun l h m => .lit (.slice none (h - l) (m - l))) h
      · exact h.elim
    · rename_i a n c _
      split at h
      · rename_i te hte
        exact vBnds_det (f := fun l h m => .lit (.slice (some (if m = l then a else a.add (l * te.size))) (h - l) (m - l))) h
      · exact h.elim
    · rename_i n _ i o _
      split at h
      · rename_i te hte
        cases hb : (Nat.beq o 0 && Nat.beq (rowM hp i) te.size) with
        | true => rw [hb] at h; exact vBnds_det h
        | false =>
          rw [hb] at h
          simp only [cond_false] at h ⊢
          split at h
          · exact ⟨_, h, rfl⟩
          · exact h.elim
      · exact h.elim
    · split at h
      · exact ⟨_, h, rfl⟩
      · exact h.elim
  · exact h.elim
theorem vField_det {tt : TT} {s : TypeId} {x : AV} {f : Nat} {Q : AV → Prop} (h : vField tt s x f Q) : ∃ v, Q v ∧ vField tt s x f (fun r => r = v) := by
  unfold vField at h ⊢
  split at h
  · split at h
    · exact ⟨_, h, rfl⟩
    · exact h.elim
  · split at h
    · exact ⟨_, h, rfl⟩
    · exact h.elim
theorem vIndexAddr_det {tt : TT} {t : TypeId} {x ix : AV} {hp : Heap} {Q : AV → Prop} (h : vIndexAddr tt t x ix hp Q) : ∃ v, Q v ∧ vIndexAddr tt t x ix hp (fun r => r = v) := by
  have two : ∀ {p : Prop} {b : Bool} {x y : AV}, (p ∧ bif b then Q x else Q y) → ∃ v, Q v ∧ p ∧ bif b then x = v else y = v := fun h => by
    obtain ⟨v, h1, h2⟩ := bif_det h.2
    exact ⟨v, h1, h.1, h2⟩
  unfold vIndexAddr at h ⊢
  split at h
  · split at h
    · split at h
      · exact two h
      · exact h.elim
    · split at h
      · exact ⟨_, h.2, h.1, rfl⟩
      · exact h.elim
    · split at h
      · exact two h
      · exact h.elim
    · split at h
      · exact two h
      · exact h.elim
    · rename_i e i q m n c hd
      split at h
      · rename_i te hte
        cases hb : Nat.beq m te.size with
        | true => rw [hb] at h; exact ⟨_, h.2, h.1, rfl⟩
        | false => rw [hb] at h; exact h.elim
      · exact h.elim
    · rename_i e i q m n hd
      split at h
      · rename_i te hte
        cases hb : Nat.beq m te.size with
        | true => rw [hb] at h; exact ⟨_, h.2, h.1, rfl⟩
        | false => rw [hb] at h; exact h.elim
      · exact h.elim
    · rename_i e i q m n hd
      split at h
      · rename_i te hte
        cases hb : Nat.beq m te.size with
        | true => rw [hb] at h; exact ⟨_, h.2, h.1, rfl⟩
        | false => rw [hb] at h; exact h.elim
      · exact h.elim
    · exact h.elim
  · exact h.elim
theorem vIndex_det {tt : TT} {t : TypeId} {x ix : AV} {Q : AV → Prop} (h : vIndex tt t x ix Q) : ∃ v, Q v ∧ vIndex tt t x ix (fun r => r = v) := by
  unfold vIndex at h ⊢
  split at h
  · split at h
    · exact ⟨_, h.2, h.1, rfl⟩
    · split at h
      · obtain ⟨hk, h⟩ := h
        split at h
        · exact ⟨_, h, hk, rfl⟩
        · exact h.elim
      · exact h.elim
    · exact h.elim
  · exact h.elim
theorem vN_det {tt : TT} {op : Op} {ev : Operand → AV} {h : Heap} {Q : AV → Prop} (hq : vN tt op ev h Q) : ∃ v, Q v ∧ vN tt op ev h (fun r => r = v) := by
  cases op
  case pick c a b =>
    simp only [vN] at hq ⊢
    split at hq
    · rename_i t ht
      rcases cP_elim hq with ⟨rfl, hq⟩ | ⟨rfl, hq⟩
      · exact ⟨_, hq, rfl⟩
      · exact ⟨_, hq, rfl⟩
    · exact hq.elim
  case binOp => exact vBin_det hq
  case convert => exact vConv_det hq
  case slice => exact vSlice_det hq
  case fieldAddr => exact vField_det hq
  case indexAddr => exact vIndexAddr_det hq
  case index => exact vIndex_det hq
  all_goals
    simp only [vN] at hq ⊢
    split at hq
    · exact ⟨_, hq, rfl⟩
    · exact hq.elim
theorem vElem_det {α : Type} {g : Nat → List Value} {k : Nat} {F : (α → Prop) → List Value → Prop} {Q : α → Prop} (hF : ∀ l, F Q l → ∃ v, Q v ∧ F (fun r => r = v) l) : ∀ {wr : List (Nat × List Value)}, vElem g wr k (F Q) → ∃ v, Q v ∧ vElem g wr k (F (fun r => r = v))
  | [], h => hF _ h
  | (q, c) :: r, h => by
    simp only [vElem] at h ⊢
    cases hb : Nat.beq k q with
    | true => rw [hb] at h; exact hF _ h
    | false => rw [hb] at h; exact vElem_det hF (wr := r) h
theorem vLoad_det {tt : TT} {t : TypeId} {a : AV} {h : Heap} {Q : AV → Prop} (hq : vLoad tt t a h Q) : ∃ v, Q v ∧ vLoad tt t a h (fun r => r = v) := by
  unfold vLoad at hq ⊢
  split at hq
  · rename_i i k m j
    split at hq
    · rename_i ti ob hti hi
      split at hq
      · rename_i m' n g wr hc
        cases hb : Nat.beq m m' with
        | false => rw [hb] at hq; exact hq.elim
        | true =>
          rw [hb] at hq
          simp only [cond_true] at hq ⊢
          unfold vLoadRow at hq ⊢
          cases hs : Nat.ble (j + ti.size) m with
          | false => rw [hs] at hq; exact hq.elim
          | true =>
            rw [hs] at hq
            simp only [cond_true] at hq ⊢
            obtain ⟨hk, hq⟩ := hq
            have := vElem_det (F := fun Q l => bif ti.agg then (bif Nat.ble (j + ti.size) l.length then Q (AV.agg (((l.drop j).take ti.size).map .lit)) else False) else (match l[j]? with
              | some v => bif Nat.beq ti.size 1 then Q (.lit v) else False
              | none => False)) (Q := Q) (fun l hl => by
                cases hagg : ti.agg with
                | true =>
                  rw [hagg] at hl
                  simp only [cond_true] at hl ⊢
                  cases hle : Nat.ble (j + ti.size) l.length with
                  | true => rw [hle] at hl; exact ⟨_, hl, rfl⟩
                  | false => rw [hle] at hl; exact hl.elim
                | false =>
                  rw [hagg] at hl
                  simp only [cond_false] at hl ⊢
                  cases hv : l[j]? with
                  | none => rw [hv] at hl; exact hl.elim
                  | some v =>
                    rw [hv] at hl
                    simp only at hl ⊢
                    cases h1 : Nat.beq ti.size 1 with
                    | true => rw [h1] at hl; exact ⟨_, hl, rfl⟩
                    | false => rw [h1] at hl; exact hl.elim) hq
            obtain ⟨v, h1, h2⟩ := this
            exact ⟨v, h1, hk, h2⟩
      · exact hq.elim
    · exact hq.elim
  · split at hq
    · exact ⟨_, hq, rfl⟩
    · exact hq.elim

end Go.Proofs.YtpbdlibgbkhlhaaGreat.SE
