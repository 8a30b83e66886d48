/- More operations that look at no memory. Plain definitions, and one law for each. -/
import Derived.Test.YtpbdlibgbkhlhaaGreatE4
namespace Go.Proofs.YtpbdlibgbkhlhaaGreat.SE
open Go

/-! ### Arithmetic, comparisons -/
def intN (op : BinOp) (k : IntKind) (a b : Int) : Option Value :=
  match op with
  | .add => some (.int k (k.wrap (a + b)))
  | .sub => some (.int k (k.wrap (a - b)))
  | .mul => some (.int k (k.wrap (a * b)))
  | .quo => if b = 0 then none else some (.int k (k.wrap (a.tdiv b)))
  | .rem => if b = 0 then none else some (.int k (a.tmod b))
  | .and => some (.int k (k.wrap (BitVec.ofInt k.bits a &&& BitVec.ofInt k.bits b).toNat))
  | .or => some (.int k (k.wrap (BitVec.ofInt k.bits a ||| BitVec.ofInt k.bits b).toNat))
  | .xor => some (.int k (k.wrap (BitVec.ofInt k.bits a ^^^ BitVec.ofInt k.bits b).toNat))
  | .andNot => some (.int k (k.wrap (BitVec.ofInt k.bits a &&& ~~~BitVec.ofInt k.bits b).toNat))
  | .eql => some (.bool (a == b))
  | .neq => some (.bool (a != b))
  | .lss => some (.bool (a < b))
  | .leq => some (.bool (a ≤ b))
  | .gtr => some (.bool (a > b))
  | .geq => some (.bool (a ≥ b))
  | _ => none

def shN (op : BinOp) (k : IntKind) (a b : Int) : Option Value :=
  match op with
  | .shl => if b < 0 then none else some (.int k (k.wrap (a * 2 ^ (min b.toNat k.bits))))
  | .shr => if b < 0 then none else some (.int k (a.fdiv (2 ^ (min b.toNat k.bits))))
  | _ => none

def strN (op : BinOp) (a b : ByteArray) : Option Value :=
  match op with
  | .add => if ((a.size + b.size : Nat) : Int) > IntKind.i64.max then none else some (.string (a ++ b))
  | .eql => some (.bool (a.toList == b.toList))
  | .neq => some (.bool !(a.toList == b.toList))
  | .lss => some (.bool (Op.bytesLess a.toList b.toList))
  | .leq => some (.bool (Op.bytesLess a.toList b.toList || a.toList == b.toList))
  | .gtr => some (.bool !(Op.bytesLess a.toList b.toList || a.toList == b.toList))
  | .geq => some (.bool !(Op.bytesLess a.toList b.toList))
  | _ => none

def isSh : BinOp → Bool
  | .shl => true
  | .shr => true
  | _ => false

def lit? : Option Value → Option AV
  | some v => some (.lit v)
  | none => none

def binN (tt : TT) (op : BinOp) (t : TypeId) (x y : AV) : Option AV :=
  match x, y with
  | .lit (.int k a), .lit (.int k' b) => bif isSh op then lit? (shN op k a b) else if k = k' then lit? (intN op k a b) else none
  | .lit (.string a), .lit (.string b) => lit? (strN op a b)
  | x, y => match tt t with
    | some ti => bif ti.guard then none else match eqA tt 40 t x y with
      | some r => match op with
        | .eql => some (.lit (.bool r))
        | .neq => some (.lit (.bool (!r)))
        | _ => none
      | none => none
    | none => none

def nonNum : Value → Bool
  | .bool _ | .pointer _ | .slice _ _ _ | .map _ | .func _ _ _ | .nilFunc | .agg _ => true
  | _ => false
theorem nonNum_eql {u : Value} (h : nonNum u = true) (t : TypeId) (v : Value) : binOp .eql t u v = (do pure (.bool (← Op.equal t u v))) := by
  cases u <;> simp [nonNum] at h <;> cases v <;> simp [binOp]
theorem nonNum_neq {u : Value} (h : nonNum u = true) (t : TypeId) (v : Value) : binOp .neq t u v = (do pure (.bool (!(← Op.equal t u v)))) := by
  cases u <;> simp [nonNum] at h <;> cases v <;> simp [binOp]

theorem eqA_shape {tt : TT} {ρ : Ren} {d : Nat} {t : TypeId} {x y : AV} {u : Value} {r : Bool} (h : eqA tt d t x y = some r) (hu : VRel ρ x u) :
    nonNum u = true ∨ (∃ k a k' b, x = .lit (.int k a) ∧ y = .lit (.int k' b)) ∨ (∃ a b, x = .lit (.string a) ∧ y = .lit (.string b)) := by
  cases d with
  | zero => simp [eqA] at h
  | succ d =>
    simp only [eqA] at h
    split at h
    · split at h
      · split at h
        · rename_i xs ys hxs hys
          obtain ⟨us, rfl, hus⟩ := aggOf_spec hxs hu
          exact .inl rfl
        · cases h
      · split at h
        · rename_i xs ys te hxs hys hte
          obtain ⟨us, rfl, hus⟩ := aggOf_spec hxs hu
          exact .inl rfl
        · cases h
      · unfold eqScalar at h
        split at h
        all_goals first
          | exact .inr (.inl ⟨_, _, _, _, rfl, rfl⟩)
          | exact .inr (.inr ⟨_, _, rfl, rfl⟩)
          | cases h; done
          | skip
        all_goals simp only [VRel] at hu
        all_goals first
          | (subst hu; exact .inl rfl)
          | (rcases hu with ⟨_, _, rfl⟩ | ⟨_, _, _, _, _, rfl, _⟩ <;> exact .inl rfl)
          | (obtain ⟨_, _, rfl⟩ := hu; exact .inl rfl)
          | (obtain ⟨_, _, _, rfl, _⟩ := hu; exact .inl rfl)
          | (obtain ⟨_, _, _, _, rfl, _⟩ := hu; exact .inl rfl)
          | (rcases hu with ⟨_, rfl⟩ | ⟨_, _, _, _, rfl, _⟩ <;> exact .inl rfl)
          | (obtain ⟨_, _, rfl, _⟩ := hu; exact .inl rfl)
    · cases h

theorem run_eqGuard {P : Program} {op : BinOp} {t : TypeId} {xo yo : Operand} {u v : Value} (hg : P.eqGuardType P.depth t = false) (hu : u ≠ .nilIface) (w : World) :
    (eqGuard op t xo yo u v).run P w = .ok () w := by
  cases op
  case eql => unfold eqGuard; cases u <;> first | exact absurd rfl hu | (cases v <;> simp [hg])
  case neq => unfold eqGuard; cases u <;> first | exact absurd rfl hu | (cases v <;> simp [hg])
  all_goals simp [eqGuard]

def binS (op : BinOp) (t : TypeId) (xo yo : Operand) (a b : Value) : Sem Value := do
  eqGuard op t xo yo a b
  binOp op t a b

theorem run_guard_plain {P : Program} {op : BinOp} {t : TypeId} {xo yo : Operand} {u v : Value} (hu : ∀ vs, u ≠ .agg vs) (hu' : u ≠ .nilIface) (w : World) : (eqGuard op t xo yo u v).run P w = .ok () w := by
  cases op
  case eql => unfold eqGuard; cases u <;> first | exact absurd rfl hu' | exact absurd rfl (hu _) | (cases v <;> simp)
  case neq => unfold eqGuard; cases u <;> first | exact absurd rfl hu' | exact absurd rfl (hu _) | (cases v <;> simp)
  all_goals simp [eqGuard]

theorem shN_ok {P : Program} {op : BinOp} {k k' : IntKind} {a b : Int} {r : Value} {t : TypeId} (h : shN op k a b = some r) (w : World) : (binOp op t (.int k a) (.int k' b)).run P w = .ok r w := by
  cases op <;> simp [shN] at h
  all_goals
    obtain ⟨hb, rfl⟩ := h
    have hb' : ¬ b < 0 := by omega
    simp [binOp, Op.shift, hb']

theorem intN_ok {P : Program} {op : BinOp} {k : IntKind} {a b : Int} {r : Value} {t : TypeId} (hs : isSh op = false) (h : intN op k a b = some r) (w : World) :
    (binOp op t (.int k a) (.int k b)).run P w = .ok r w := by
  cases op <;> simp [intN] at h <;> simp [isSh] at hs
  case quo => obtain ⟨hb, rfl⟩ := h; simp [binOp, Op.intDiv, hb]
  case rem => obtain ⟨hb, rfl⟩ := h; simp [binOp, Op.intDiv, hb]
  all_goals (subst h; simp [binOp, Op.intArith, Op.intBits, Op.intCmp])

theorem strN_ok {P : Program} {op : BinOp} {a b : ByteArray} {r : Value} {t : TypeId} (h : strN op a b = some r) (w : World) : (binOp op t (.string a) (.string b)).run P w = .ok r w := by
  cases op <;> simp only [strN, Option.some.injEq] at h <;> try (first | cases h; done)
  case add =>
    split at h
    · cases h
    · rename_i hh
      cases h
      simp only [binOp, Op.stringOp, if_neg hh, Sem.run_pure]
  all_goals (subst h; simp [binOp, Op.stringOp])

theorem lit?_some {o : Option Value} {v : AV} (h : lit? o = some v) : ∃ u, o = some u ∧ v = .lit u := by
  cases o <;> simp [lit?] at h
  exact ⟨_, rfl, h.symm⟩

theorem binN_ok {P : Program} {tt : TT} (hT : tt.ok P) {ρ : Ren} {op : BinOp} {t : TypeId} {xo yo : Operand} {x y r : AV} {u v : Value} (h : binN tt op t x y = some r)
    (hu : VRel ρ x u) (hv : VRel ρ y v) : NOk P (binS op t xo yo u v) ρ r := by
  unfold binN at h
  split at h
  · rename_i k a k' b
    simp only [VRel] at hu hv; subst hu; subst hv
    cases hs : isSh op with
    | true =>
      rw [hs] at h; simp only [cond_true] at h
      obtain ⟨q, hq, rfl⟩ := lit?_some h
      refine ⟨q, fun w => ?_, by simp [VRel]⟩
      simp only [binS, Sem.run_bind, run_guard_plain (u := .int k a) (by simp) (by simp), Result.andThen_ok, shN_ok hq]
    | false =>
      rw [hs] at h; simp only [cond_false] at h
      split at h
      · rename_i hk; subst hk
        obtain ⟨q, hq, rfl⟩ := lit?_some h
        refine ⟨q, fun w => ?_, by simp [VRel]⟩
        simp only [binS, Sem.run_bind, run_guard_plain (u := .int k a) (by simp) (by simp), Result.andThen_ok, intN_ok hs hq]
      · cases h
  · rename_i a b
    simp only [VRel] at hu hv; subst hu; subst hv
    obtain ⟨q, hq, rfl⟩ := lit?_some h
    refine ⟨q, fun w => ?_, by simp [VRel]⟩
    simp only [binS, Sem.run_bind, run_guard_plain (u := .string a) (by simp) (by simp), Result.andThen_ok, strN_ok hq]
  · rename_i hni hns
    split at h
    · rename_i ti hti
      cases hg : ti.guard with
      | true => rw [hg] at h; simp at h
      | false =>
        rw [hg] at h; simp only [cond_false] at h
        split at h
        · rename_i q hq
          have heq : ∀ w, (Op.equal t u v).run P w = .ok q w := eqA_ok hT 40 t 10000 (by omega) x y u v q hq hu hv
          have hnn : nonNum u = true := by
            rcases eqA_shape hq hu with h1 | ⟨k, a, k', b, rfl, rfl⟩ | ⟨a, b, rfl, rfl⟩
            · exact h1
            · exact (hni _ _ _ _ rfl rfl).elim
            · exact (hns _ _ rfl rfl).elim
          have hgr : ∀ w, (eqGuard op t xo yo u v).run P w = .ok () w := run_eqGuard (by rw [hT.guard hti]; exact hg) (fun hh => by rw [hh] at hnn; cases hnn)
          split at h
          · cases h
            refine ⟨.bool q, fun w => ?_, by simp [VRel]⟩
            simp only [binS, Sem.run_bind, hgr, Result.andThen_ok, nonNum_eql hnn, heq, Sem.run_pure]
          · cases h
            refine ⟨.bool (!q), fun w => ?_, by simp [VRel]⟩
            simp only [binS, Sem.run_bind, hgr, Result.andThen_ok, nonNum_neq hnn, heq, Sem.run_pure]
          · cases h
        · cases h
    · cases h

/-! ### One operand -/
def unN (op : UnOp) (x : AV) : Option AV :=
  match op, x with
  | .neg, .lit (.int k a) => some (.lit (.int k (k.wrap (0 - a))))
  | .xor, .lit (.int k a) => lit? (intN .xor k (if k.signed then -1 else k.max) a)
  | .not, .lit (.bool b) => some (.lit (.bool (!b)))
  | _, _ => none
theorem unN_ok {P : Program} {ρ : Ren} {op : UnOp} {x r : AV} {u : Value} (h : unN op x = some r) (hu : VRel ρ x u) : NOk P (Op.unary op u) ρ r := by
  unfold unN at h
  split at h
  · cases h; simp only [VRel] at hu; subst hu
    exact ⟨_, fun w => by simp [Op.unary, Op.intArith]; rfl, by simp [VRel]⟩
  · simp only [VRel] at hu; subst hu
    obtain ⟨q, hq, rfl⟩ := lit?_some h
    simp only [intN, Option.some.injEq] at hq
    exact ⟨q, fun w => by simp [Op.unary, Op.intBits]; exact hq, by simp [VRel]⟩
  · cases h; simp only [VRel] at hu; subst hu
    exact ⟨_, fun w => by simp [Op.unary]; rfl, by simp [VRel]⟩
  · cases h

def convN (tt : TT) (src dst : TypeId) (x : AV) : Option AV :=
  match tt src, tt dst with
  | some ts, some td => match ts.desc, td.desc, x with
    | .int _, .int k, .lit (.int _ n) => some (.lit (.int k (k.wrap n)))
    | .string, .string, .lit (.string s) => some (.lit (.string s))
    | _, _, _ => none
  | _, _ => none
theorem convN_ok {P : Program} {tt : TT} (hT : tt.ok P) {ρ : Ren} {src dst : TypeId} {x r : AV} {u : Value} (h : convN tt src dst x = some r) (hu : VRel ρ x u) : NOk P (convert src dst u) ρ r := by
  unfold convN at h
  split at h
  · rename_i ts td hts htd
    split at h
    · rename_i k0 k k1 n hs hd
      cases h; simp only [VRel] at hu; subst hu
      refine ⟨.int k (k.wrap n), fun w => ?_, by simp only [VRel]⟩
      obtain ⟨d1, r1, _, m1⟩ := run_under (P := P) hT hts w
      obtain ⟨d2, r2, _, m2⟩ := run_under (P := P) hT htd w
      rw [mkTD_int (m1.trans hs)] at r1; rw [mkTD_int (m2.trans hd)] at r2
      simp [convert, r1, r2, Conv.intToInt]
    · rename_i s hs hd
      cases h; simp only [VRel] at hu; subst hu
      refine ⟨.string s, fun w => ?_, by simp only [VRel]⟩
      obtain ⟨d1, r1, _, m1⟩ := run_under (P := P) hT hts w
      obtain ⟨d2, r2, _, m2⟩ := run_under (P := P) hT htd w
      rw [mkTD_string (m1.trans hs)] at r1; rw [mkTD_string (m2.trans hd)] at r2
      simp [convert, r1, r2]
    · cases h
  · cases h

def nilN (x : AV) : Option AV :=
  match x with
  | .ptr i o => some (.ptr i o)
  | .ptrE i k m j => some (.ptrE i k m j)
  | .fn (.func f) a b => some (.fn (.func f) a b)
  | .fn (.via t p f q) a b => some (.fn (.via t p f q) a b)
  | _ => none
def nilS (x : Value) : Sem Next :=
  match x with
  | .pointer none | .nilIface | .nilFunc => runtimePanic .nilDeref
  | .func (.method name) first captured =>
    match (first[0]? : Option Value) with
    | some .nilIface => runtimePanic .nilDeref
    | some (.iface t w) => do
      if (← nilAhead ((← program).types.size + Made.depth) t w name) != some false then
        unsupported (.noEntry "op/nilCheck.the method's receiver behind this interface value is a nil pointer, or cannot be seen to be none, and the arguments act or may panic (ledger 612)")
      pure (.value (.func (.method name) first captured))
    | _ => pure (.value (.func (.method name) first captured))
  | x => pure (.value x)
theorem nilN_ok {P : Program} {ρ : Ren} {x r : AV} {u : Value} (h : nilN x = some r) (hu : VRel ρ x u) : ∃ v, (∀ w, (nilS u).run P w = .ok (.value v) w) ∧ VRel ρ r v := by
  unfold nilN at h
  split at h
  · cases h; have hu' := hu; simp only [VRel] at hu; obtain ⟨a, _, rfl⟩ := hu; exact ⟨_, fun w => by simp [nilS], hu'⟩
  · cases h; have hu' := hu; simp only [VRel] at hu; obtain ⟨a, _, rfl⟩ := hu; exact ⟨_, fun w => by simp [nilS], hu'⟩
  · cases h; have hu' := hu; simp only [VRel] at hu; obtain ⟨a, b, rfl, _⟩ := hu; exact ⟨_, fun w => by simp [nilS], hu'⟩
  · cases h; have hu' := hu; simp only [VRel] at hu; obtain ⟨a, b, rfl, _⟩ := hu; exact ⟨_, fun w => by simp [nilS], hu'⟩
  · cases h

/-! ### Addresses -/
def fieldAddrN (tt : TT) (s : TypeId) (x : AV) (f : Nat) : Option AV :=
  match tt s, x with
  | some ts, .ptr i o => match ts.desc with
    | .struct fs _ => match fs[f]? with
      | some (off, t, _) => match tt t with
        | some tf => bif Nat.beq tf.size 0 then none else some (.ptr i (o + off))
        | none => none
      | none => none
    | _ => none
  | _, _ => none
theorem fieldAddrN_ok {P : Program} {tt : TT} (hT : tt.ok P) {ρ : Ren} {s : TypeId} {f : Nat} {x r : AV} {u : Value} (h : fieldAddrN tt s x f = some r) (hu : VRel ρ x u) :
    NOk P (Instr.fieldAt s u f) ρ r := by
  unfold fieldAddrN at h
  split at h
  · rename_i ts i o hts
    split at h
    · rename_i fs held hfs
      split at h
      · rename_i off t b hf
        split at h
        · rename_i tf htf
          cases hz : Nat.beq tf.size 0 with
          | true => rw [hz] at h; simp at h
          | false =>
            rw [hz] at h; simp only [cond_false, Option.some.injEq] at h; subst h
            simp only [VRel] at hu; obtain ⟨a, ha, rfl⟩ := hu
            have hz' : tf.size ≠ 0 := fun h0 => by rw [h0] at hz; cases hz
            obtain ⟨gs, hgs⟩ : ∃ gs : Array Field, P.underlying s = some (.struct gs) ∧ gs.toList.map (fun f => (f.offset, f.type, f.name != "_")) = fs := by
              obtain ⟨d1, _, hund, m1⟩ := run_under (P := P) hT hts default
              obtain ⟨gs, rfl, hg, _⟩ := mkTD_struct (m1.trans hfs)
              exact ⟨gs, hund, hg⟩
            obtain ⟨hund, hg⟩ := hgs
            rw [← hg, List.getElem?_map] at hf
            cases hgf : gs.toList[f]? with
            | none => rw [hgf] at hf; cases hf
            | some g =>
              rw [hgf] at hf; simp only [Option.map_some, Option.some.injEq, Prod.mk.injEq] at hf
              obtain ⟨rfl, rfl, _⟩ := hf
              refine ⟨.pointer (some ⟨a.blk, a.base + o + g.offset, none⟩), fun w => ?_, ?_⟩
              · have hgf' : gs[f]? = some g := by simpa using hgf
                simp [Instr.fieldAt, underlying, hund, hgf', Instr.sureAddr, fieldPlace, run_sizeOf hT htf, hz', add_zero_spot]
              · simp only [VRel]; exact ⟨a, ha, by rw [Nat.add_assoc]⟩
        · cases h
      · cases h
    · cases h
  · cases h

def indexAddrN (tt : TT) (t : TypeId) (x ix : AV) : Option AV :=
  match tt t, ix with
  | some ti, .lit (.int _ k) => match ti.desc, x with
    | .array n e, .ptr i o => match tt e with
      | some te => if 0 ≤ k ∧ k < (n : Int) then some (.ptr i (o + k.toNat * te.size)) else none
      | none => none
    | .slice e, .sl i o n _ => match tt e with
      | some te => if 0 ≤ k ∧ k < (n : Int) then some (.ptr i (o + k.toNat * te.size)) else none
      | none => none
    | .slice e, .slU i o n _ => match tt e with
      | some te => if 0 ≤ k ∧ k < (n : Int) then some (.ptr i (o + k.toNat * te.size)) else none
      | none => none
    | _, _ => none
  | _, _ => none
theorem indexAddrN_ok {P : Program} {tt : TT} (hT : tt.ok P) {ρ : Ren} {t : TypeId} {x ix r : AV} {u v : Value} (h : indexAddrN tt t x ix = some r) (hu : VRel ρ x u) (hv : VRel ρ ix v) :
    NOk P (Instr.indexAt t u v) ρ r := by
  unfold indexAddrN at h
  split at h
  · rename_i ti kk k hti
    simp only [VRel] at hv; subst hv
    split at h
    · rename_i n e i o hd
      split at h
      · rename_i te hte
        split at h
        · rename_i hk
          cases h; simp only [VRel] at hu; obtain ⟨a, ha, rfl⟩ := hu
          refine ⟨.pointer (some ⟨a.blk, a.base + o + k.toNat * te.size, none⟩), fun w => ?_, by simp only [VRel]; exact ⟨a, ha, by rw [Nat.add_assoc]⟩⟩
          obtain ⟨d1, r1, _, m1⟩ := run_under (P := P) hT hti w
          rw [mkTD_array (m1.trans hd)] at r1
          simp [Instr.indexAt, asIntOf, r1, Instr.sureAddr, hk, run_sizeOf hT hte, add_zero_spot]
        · cases h
      · cases h
    · rename_i e i o n c hd
      split at h
      · rename_i te hte
        split at h
        · rename_i hk
          cases h; simp only [VRel] at hu; obtain ⟨a, ha, rfl⟩ := hu
          refine ⟨.pointer (some ⟨a.blk, a.base + o + k.toNat * te.size, none⟩), fun w => ?_, by simp only [VRel]; exact ⟨a, ha, by rw [Nat.add_assoc]⟩⟩
          obtain ⟨d1, r1, _, m1⟩ := run_under (P := P) hT hti w
          rw [mkTD_slice (m1.trans hd)] at r1
          simp [Instr.indexAt, asIntOf, r1, hk, run_sizeOf hT hte, add_zero_spot]
        · cases h
      · cases h
    · rename_i e i o n c hd
      split at h
      · rename_i te hte
        split at h
        · rename_i hk
          cases h; simp only [VRel] at hu; obtain ⟨a, c, ha, rfl, _⟩ := hu
          refine ⟨.pointer (some ⟨a.blk, a.base + o + k.toNat * te.size, none⟩), fun w => ?_, by simp only [VRel]; exact ⟨a, ha, by rw [Nat.add_assoc]⟩⟩
          obtain ⟨d1, r1, _, m1⟩ := run_under (P := P) hT hti w
          rw [mkTD_slice (m1.trans hd)] at r1
          simp [Instr.indexAt, asIntOf, r1, hk, run_sizeOf hT hte, add_zero_spot]
        · cases h
      · cases h
    · cases h
  · cases h

def fieldN (tt : TT) (t : TypeId) (x : AV) (f : Nat) : Option AV :=
  match tt t, aggOf x with
  | some ti, some cs => match ti.desc with
    | .struct fs _ => match fs[f]? with
      | some (off, ft, _) => partA tt ft cs off
      | none => none
    | _ => none
  | _, _ => none
theorem fieldN_ok {P : Program} {tt : TT} (hT : tt.ok P) {ρ : Ren} {t : TypeId} {f : Nat} {x r : AV} {u : Value} (h : fieldN tt t x f = some r) (hu : VRel ρ x u) : NOk P (Instr.field t u f) ρ r := by
  unfold fieldN at h
  split at h
  · rename_i ti cs hti hcs
    obtain ⟨vs, rfl, hvs⟩ := aggOf_spec hcs hu
    split at h
    · rename_i fs held hfs
      split at h
      · rename_i off ft b hf
        obtain ⟨q, hq, hr⟩ := partA_ok (P := P) hT h hvs
        obtain ⟨gs, hund, hg⟩ : ∃ gs : Array Field, P.underlying t = some (.struct gs) ∧ gs.toList.map (fun f => (f.offset, f.type, f.name != "_")) = fs := by
          obtain ⟨d1, _, hund, m1⟩ := run_under (P := P) hT hti default
          obtain ⟨gs, rfl, hg, _⟩ := mkTD_struct (m1.trans hfs)
          exact ⟨gs, hund, hg⟩
        rw [← hg, List.getElem?_map] at hf
        cases hgf : gs.toList[f]? with
        | none => rw [hgf] at hf; cases hf
        | some g =>
          rw [hgf] at hf; simp only [Option.map_some, Option.some.injEq, Prod.mk.injEq] at hf
          obtain ⟨rfl, rfl, _⟩ := hf
          refine ⟨q, fun w => ?_, hr⟩
          have hgf' : gs[f]? = some g := by simpa using hgf
          simp [Instr.field, underlying, hund, hgf', asAgg, hq]
      · cases h
    · cases h
  · cases h

def indexN (tt : TT) (t : TypeId) (x ix : AV) : Option AV :=
  match tt t, ix with
  | some ti, .lit (.int _ k) => match ti.desc, x with
    | .string, .lit (.string s) => match (if 0 ≤ k then s[k.toNat]? else none) with
      | some b => some (.lit (.int .u8 b.toNat))
      | none => none
    | .array n e, x => match aggOf x, tt e with
      | some cs, some te => if 0 ≤ k ∧ k < (n : Int) then partA tt e cs (k.toNat * te.size) else none
      | _, _ => none
    | _, _ => none
  | _, _ => none
theorem indexN_ok {P : Program} {tt : TT} (hT : tt.ok P) {ρ : Ren} {t : TypeId} {x ix r : AV} {u v : Value} (h : indexN tt t x ix = some r) (hu : VRel ρ x u) (hv : VRel ρ ix v) : NOk P (Instr.index t u v) ρ r := by
  unfold indexN at h
  split at h
  · rename_i ti kk k hti
    simp only [VRel] at hv; subst hv
    split at h
    · rename_i s hd
      simp only [VRel] at hu; subst hu
      split at h
      · rename_i b hb
        cases h
        refine ⟨.int .u8 b.toNat, fun w => ?_, by simp only [VRel]⟩
        obtain ⟨d1, r1, _, m1⟩ := run_under (P := P) hT hti w
        rw [mkTD_string (m1.trans hd)] at r1
        simp [Instr.index, asIntOf, r1, hb]
      · cases h
    · rename_i n e hd
      split at h
      · rename_i cs te hcs hte
        obtain ⟨vs, rfl, hvs⟩ := aggOf_spec hcs hu
        split at h
        · rename_i hk
          obtain ⟨q, hq, hr⟩ := partA_ok (P := P) hT h hvs
          refine ⟨q, fun w => ?_, hr⟩
          obtain ⟨d1, r1, _, m1⟩ := run_under (P := P) hT hti w
          rw [mkTD_array (m1.trans hd)] at r1
          simp [Instr.index, asIntOf, r1, hk, run_sizeOf hT hte, hq]
        · cases h
      · cases h
    · cases h
  · cases h

def extractN (x : AV) (ix : Nat) : Option AV :=
  match x with
  | .tup vs => vs[ix]?
  | _ => none
theorem extractN_ok {P : Program} {ρ : Ren} {x r : AV} {ix : Nat} {u : Value} (h : extractN x ix = some r) (hu : VRel ρ x u) : NOk P (Instr.extract u ix) ρ r := by
  unfold extractN at h
  split at h
  · simp only [VRel] at hu; obtain ⟨vs, rfl, hl⟩ := hu
    obtain ⟨q, hq, hr⟩ := hl.get _ _ h
    refine ⟨q, fun w => ?_, hr⟩
    have : vs[ix]? = some q := by simpa using hq
    simp [Instr.extract, this]
  · cases h
end Go.Proofs.YtpbdlibgbkhlhaaGreat.SE
