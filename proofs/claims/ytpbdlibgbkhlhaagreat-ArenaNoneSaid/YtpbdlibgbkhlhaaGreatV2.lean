/- Operations that look at no memory, on values of which not all is known. -/
import Derived.Test.YtpbdlibgbkhlhaaGreatV1
namespace Go.Proofs.YtpbdlibgbkhlhaaGreat.SE
open Go

/-- It is a signed word. -/
def I64 (z : Int) : Prop := -9223372036854775808 ≤ z ∧ z ≤ 9223372036854775807
/-- A sum: of signed words it is asked that it fits, of others it is cut. -/
def arith (k : IntKind) (z : Int) (Q : AV → Prop) : Prop := match k with
  | .i64 => I64 z ∧ Q (.lit (.int .i64 z))
  | k => Q (.lit (.int k (k.wrap z)))
theorem wrap_in {z : Int} (h : -9223372036854775808 ≤ z ∧ z ≤ 9223372036854775807) : IntKind.i64.wrap z = z := by
  have := h.1; have := h.2
  simp only [IntKind.wrap, IntKind.bits, IntKind.signed]
  simp
  omega
theorem arith_ok {k : IntKind} {z : Int} {Q : AV → Prop} (h : arith k z Q) : Q (.lit (.int k (k.wrap z))) := by
  unfold arith at h
  split at h
  · rw [wrap_in h.1]; exact h.2
  · exact h

def intOf? : AV → Option (IntKind × Int)
  | .lit (.int k a) => some (k, a)
  | _ => none
theorem intOf_some {x : AV} {k : IntKind} {a : Int} (h : intOf? x = some (k, a)) : x = .lit (.int k a) := by
  unfold intOf? at h
  split at h
  · cases h; rfl
  · cases h
def strOf? : AV → Option ByteArray
  | .lit (.string s) => some s
  | _ => none
theorem strOf_some {x : AV} {a : ByteArray} (h : strOf? x = some a) : x = .lit (.string a) := by
  unfold strOf? at h
  split at h
  · cases h; rfl
  · cases h
def vInt (op : BinOp) (k : IntKind) (a : Int) (k' : IntKind) (b : Int) (Q : AV → Prop) : Prop := match op with
  | .shl => 0 ≤ b ∧ Q (.lit (.int k (k.wrap (a * 2 ^ (min b.toNat k.bits)))))
  | .shr => 0 ≤ b ∧ Q (.lit (.int k (a.fdiv (2 ^ (min b.toNat k.bits)))))
  | op => if k = k' then (match op with
    | .add => arith k (a + b) Q
    | .sub => arith k (a - b) Q
    | .mul => arith k (a * b) Q
    | .quo => b ≠ 0 ∧ arith k (a.tdiv b) Q
    | .rem => b ≠ 0 ∧ Q (.lit (.int k (a.tmod b)))
    | op => match intN op k a b with
      | some v => Q (.lit v)
      | none => False) else False
def vStr (op : BinOp) (a b : ByteArray) (Q : AV → Prop) : Prop := match op with
  | .add => ((a.size + b.size : Nat) : Int) ≤ 9223372036854775807 ∧ Q (.lit (.string (a ++ b)))
  | op => match strN op a b with
    | some v => Q (.lit v)
    | none => False
def vBin (tt : TT) (op : BinOp) (t : TypeId) (x y : AV) (Q : AV → Prop) : Prop :=
  match intOf? x, intOf? y with
  | some (k, a), some (k', b) => vInt op k a k' b Q
  | _, _ => match strOf? x, strOf? y with
    | some a, some b => vStr op a b Q
    | _, _ => match binN tt op t x y with
      | some v => Q v
      | none => False

theorem vBin_ok {P : Program} {tt : TT} (hT : tt.ok P) {ρ : Ren} {op : BinOp} {t : TypeId} {xo yo : Operand} {x y : AV} {u v : Value} {Q : AV → Prop} (h : vBin tt op t x y Q)
    (hu : VRel ρ x u) (hv : VRel ρ y v) : ∃ r, NOk P (binS op t xo yo u v) ρ r ∧ Q r := by
  have go : ∀ r, binN tt op t x y = some r → Q r → ∃ r, NOk P (binS op t xo yo u v) ρ r ∧ Q r := fun r hr hq => ⟨r, binN_ok hT hr hu hv, hq⟩
  unfold vBin at h
  split at h
  · rename_i k a k' b hx hy
    have := intOf_some hx; subst this
    have := intOf_some hy; subst this
    cases op <;> simp only [vInt] at h
    case shl => exact go _ (by have : ¬ b < 0 := by omega
                               simp [binN, isSh, shN, this, lit?]) h.2
    case shr => exact go _ (by have : ¬ b < 0 := by omega
                               simp [binN, isSh, shN, this, lit?]) h.2
    all_goals
      split at h
      · rename_i hk
        subst hk
        first
          | exact go _ (by simp [binN, isSh, intN, lit?]) (arith_ok h)
          | exact go _ (by simp [binN, isSh, intN, lit?, h.1]) (arith_ok h.2)
          | exact go _ (by simp [binN, isSh, intN, lit?, h.1]) h.2
          | exact go _ (by simp [binN, isSh, intN, lit?]) h
          | (simp only [intN] at h)
      · exact h.elim
  · split at h
    · rename_i a b hx hy
      have := strOf_some hx; subst this
      have := strOf_some hy; subst this
      cases op <;> simp only [vStr] at h
      case add =>
        have hm : ¬ ((a.size + b.size : Nat) : Int) > IntKind.i64.max := by
          have : IntKind.i64.max = 9223372036854775807 := by decide
          rw [this]; omega
        exact go _ (by simp only [binN, strN, if_neg hm, lit?]) h.2
      all_goals first
        | exact go _ (by simp only [binN, strN, lit?]; rfl) (by simpa only [strN] using h)
        | (simp only [strN] at h)
    · split at h
      · rename_i r hr; exact go r hr h
      · exact h.elim

def vConv (tt : TT) (src dst : TypeId) (x : AV) (Q : AV → Prop) : Prop :=
  match tt src, tt dst with
  | some ts, some td => match ts.desc, td.desc, x with
    | .int _, .int k, .lit (.int _ n) => arith k n Q
    | .string, .string, .lit (.string s) => Q (.lit (.string s))
    | _, _, _ => False
  | _, _ => False
theorem vConv_ok {P : Program} {tt : TT} (hT : tt.ok P) {ρ : Ren} {src dst : TypeId} {x : AV} {u : Value} {Q : AV → Prop} (h : vConv tt src dst x Q) (hu : VRel ρ x u) : ∃ r, NOk P (convert src dst u) ρ r ∧ Q r := by
  unfold vConv at h
  split at h
  · rename_i ts td hts htd
    split at h
    · rename_i k0 k k1 n hs hd
      exact ⟨_, convN_ok (P := P) (r := .lit (.int k (k.wrap n))) hT (by simp [convN, hts, htd, hs, hd]) hu, arith_ok h⟩
    · rename_i s hs hd
      exact ⟨_, convN_ok (P := P) (r := .lit (.string s)) hT (by simp [convN, hts, htd, hs, hd]) hu, h⟩
    · exact h.elim
  · exact h.elim

/-- The length of a row's elements. -/
def rowM (h : Heap) (i : Nat) : Nat := match h.get i with
  | some ob => match ob.conts with
    | some (.row m _ _ _) => m
    | _ => 0
  | none => 0

def vField (tt : TT) (s : TypeId) (x : AV) (f : Nat) (Q : AV → Prop) : Prop :=
  match x with
  | .ptrE i k m j => match fieldAddrN tt s (.ptr i j) f with
    | some (.ptr _ j') => Q (.ptrE i k m j')
    | _ => False
  | x => match fieldAddrN tt s x f with
    | some v => Q v
    | none => False
theorem fieldAddrN_shift {tt : TT} {s : TypeId} {i f j d : Nat} {r : AV} (h : fieldAddrN tt s (.ptr i j) f = some r) : ∃ j', r = .ptr i j' ∧ fieldAddrN tt s (.ptr i (d + j)) f = some (.ptr i (d + j')) := by
  unfold fieldAddrN at h ⊢
  split at h
  · rename_i ts i' o hts hx
    cases hx
    split at h
    · rename_i fs b hfs
      split at h
      · rename_i off t b' hf
        split at h
        · rename_i tf htf
          cases hz : Nat.beq tf.size 0 with
          | true => rw [hz] at h; simp at h
          | false =>
            rw [hz] at h; simp only [cond_false, Option.some.injEq] at h
            refine ⟨j + off, h.symm, ?_⟩
            simp only [hts, hfs, hf, htf, hz, cond_false, Nat.add_assoc]
        · cases h
      · cases h
    · cases h
  · cases h
theorem vField_ok {P : Program} {tt : TT} (hT : tt.ok P) {ρ : Ren} {s : TypeId} {f : Nat} {x : AV} {u : Value} {Q : AV → Prop} (h : vField tt s x f Q) (hu : VRel ρ x u) : ∃ r, NOk P (Instr.fieldAt s u f) ρ r ∧ Q r := by
  unfold vField at h
  split at h
  · rename_i i k m j
    split at h
    · rename_i i' j' hf
      obtain ⟨j2, h2, h3⟩ := fieldAddrN_shift (d := k * m) hf
      cases h2
      obtain ⟨r, h4, h5⟩ := fieldAddrN_ok (P := P) (ρ := ρ) (u := u) hT h3 (by simpa only [VRel] using hu)
      exact ⟨_, ⟨r, h4, by simpa only [VRel] using h5⟩, h⟩
    · exact h.elim
  · split at h
    · rename_i v hv; exact ⟨v, fieldAddrN_ok hT hv hu, h⟩
    · exact h.elim

def vIndexAddr (tt : TT) (t : TypeId) (x ix : AV) (h : Heap) (Q : AV → Prop) : Prop :=
  match tt t, ix with
  | some ti, .lit (.int _ k) => match ti.desc, x with
    | .array n e, .ptr i o => match tt e with
      | some te => (0 ≤ k ∧ k < (n : Int)) ∧ (bif Nat.beq o 0 && Nat.beq (rowM h i) te.size then Q (.ptrE i k.toNat te.size 0) else Q (.ptr i (o + k.toNat * te.size)))
      | none => False
    | .array n e, .ptrE i q m j => match tt e with
      | some te => (0 ≤ k ∧ k < (n : Int)) ∧ Q (.ptrE i q m (j + k.toNat * te.size))
      | none => False
    | .slice e, .sl i o n _ => match tt e with
      | some te => (0 ≤ k ∧ k < (n : Int)) ∧ (bif Nat.beq o 0 && Nat.beq (rowM h i) te.size then Q (.ptrE i k.toNat te.size 0) else Q (.ptr i (o + k.toNat * te.size)))
      | none => False
    | .slice e, .slU i o n _ => match tt e with
      | some te => (0 ≤ k ∧ k < (n : Int)) ∧ (bif Nat.beq o 0 && Nat.beq (rowM h i) te.size then Q (.ptrE i k.toNat te.size 0) else Q (.ptr i (o + k.toNat * te.size)))
      | none => False
    | .slice e, .slE i q m n _ => match tt e with
      | some te => bif Nat.beq m te.size then ((0 ≤ k ∧ k < (n : Int)) ∧ Q (.ptrE i (q + k.toNat) m 0)) else False
      | none => False
    | .slice e, .slW i q m n => match tt e with
      | some te => bif Nat.beq m te.size then ((0 ≤ k ∧ k < (n : Int)) ∧ Q (.ptrE i (q + k.toNat) m 0)) else False
      | none => False
    | .slice e, .slR i q m n => match tt e with
      | some te => bif Nat.beq m te.size then ((0 ≤ k ∧ k < (n : Int)) ∧ Q (.ptrE i (q + k.toNat) m 0)) else False
      | none => False
    | _, _ => False
  | _, _ => False
theorem run_index_slice {P : Program} {tt : TT} (hT : tt.ok P) {t e : TypeId} {ti te : TI} (hti : tt t = some ti) (hd : ti.desc = .slice e) (hte : tt e = some te) {b p n c : Nat} {kk : IntKind} {k : Int} (hk : 0 ≤ k ∧ k < (n : Int)) (w : World) :
    (Instr.indexAt t (.slice (some ⟨b, p, none⟩) n c) (.int kk k)).run P w = .ok (.pointer (some ⟨b, p + k.toNat * te.size, none⟩)) w := by
  obtain ⟨d1, r1, _, m1⟩ := run_under (P := P) hT hti w
  rw [mkTD_slice (m1.trans hd)] at r1
  simp [Instr.indexAt, asIntOf, r1, hk, run_sizeOf hT hte, add_zero_spot]
theorem vIndexAddr_ok {P : Program} {tt : TT} (hT : tt.ok P) {ρ : Ren} {t : TypeId} {x ix : AV} {h : Heap} {u v : Value} {Q : AV → Prop} (hq : vIndexAddr tt t x ix h Q) (hu : VRel ρ x u) (hv : VRel ρ ix v) :
    ∃ r, NOk P (Instr.indexAt t u v) ρ r ∧ Q r := by
  have row : ∀ (i o m : Nat) (k : Int) (b : Bool), NOk P (Instr.indexAt t u v) ρ (.ptr i (o + k.toNat * m)) → b = (Nat.beq o 0 && Nat.beq (rowM h i) m) → (bif b then Q (.ptrE i k.toNat m 0) else Q (.ptr i (o + k.toNat * m))) → ∃ r, NOk P (Instr.indexAt t u v) ρ r ∧ Q r := by
    intro i o m k b hn hb hq
    cases b with
    | false => exact ⟨_, hn, hq⟩
    | true =>
      have hb := hb.symm
      simp only [Bool.and_eq_true] at hb
      have := Nat.eq_of_beq_eq_true hb.1; subst this
      obtain ⟨r, h1, h2⟩ := hn
      exact ⟨_, ⟨r, h1, by simpa only [VRel, Nat.zero_add, Nat.add_zero] using h2⟩, hq⟩
  unfold vIndexAddr at hq
  split at hq
  · rename_i ti kk k hti
    split at hq
    · rename_i n e i o hd
      split at hq
      · rename_i te hte
        obtain ⟨hk, hq⟩ := hq
        exact row i o te.size k _ (indexAddrN_ok (P := P) (ix := .lit (.int kk k)) hT (by simp [indexAddrN, hti, hd, hte, hk]) hu hv) rfl hq
      · exact hq.elim
    · rename_i n e i q m j hd
      split at hq
      · rename_i te hte
        obtain ⟨hk, hq⟩ := hq
        obtain ⟨r, h1, h2⟩ := indexAddrN_ok (P := P) (ρ := ρ) (t := t) (x := .ptr i (q * m + j)) (ix := .lit (.int kk k)) (r := .ptr i (q * m + j + k.toNat * te.size)) hT (by simp [indexAddrN, hti, hd, hte, hk]) (by simpa only [VRel] using hu) hv
        exact ⟨_, ⟨r, h1, by simpa only [VRel, Nat.add_assoc] using h2⟩, hq⟩
      · exact hq.elim
    · rename_i e i o n c hd
      split at hq
      · rename_i te hte
        obtain ⟨hk, hq⟩ := hq
        exact row i o te.size k _ (indexAddrN_ok (P := P) (ix := .lit (.int kk k)) hT (by simp [indexAddrN, hti, hd, hte, hk]) hu hv) rfl hq
      · exact hq.elim
    · rename_i e i o n c hd
      split at hq
      · rename_i te hte
        obtain ⟨hk, hq⟩ := hq
        exact row i o te.size k _ (indexAddrN_ok (P := P) (ix := .lit (.int kk k)) hT (by simp [indexAddrN, hti, hd, hte, hk]) hu hv) rfl hq
      · exact hq.elim
    · rename_i e i q m n c hd
      split at hq
      · rename_i te hte
        cases hm : Nat.beq m te.size with
        | false => rw [hm] at hq; exact hq.elim
        | true =>
          rw [hm] at hq; simp only [cond_true] at hq
          have := Nat.eq_of_beq_eq_true hm; subst this
          obtain ⟨hk, hq⟩ := hq
          simp only [VRel] at hu hv; subst hv
          obtain ⟨a, p, ha, rfl, hnc, hp⟩ := hu
          refine ⟨_, ⟨_, fun w => run_index_slice hT hti hd hte hk w, ?_⟩, hq⟩
          have := hp (by omega)
          simp only [VRel]
          exact ⟨a, ha, by rw [this, Nat.add_mul]; simp [Nat.add_assoc]⟩
      · exact hq.elim
    · rename_i e i q m n hd
      split at hq
      · rename_i te hte
        cases hm : Nat.beq m te.size with
        | false => rw [hm] at hq; exact hq.elim
        | true =>
          rw [hm] at hq; simp only [cond_true] at hq
          have := Nat.eq_of_beq_eq_true hm; subst this
          obtain ⟨hk, hq⟩ := hq
          simp only [VRel] at hu hv; subst hv
          obtain ⟨a, p, c, ha, rfl, hnc, hp⟩ := hu
          refine ⟨_, ⟨_, fun w => run_index_slice hT hti hd hte hk w, ?_⟩, hq⟩
          have := (hp (by omega)).1
          simp only [VRel]
          exact ⟨a, ha, by rw [this, Nat.add_mul]; simp [Nat.add_assoc]⟩
      · exact hq.elim
    · rename_i e i q m n hd
      split at hq
      · rename_i te hte
        cases hm : Nat.beq m te.size with
        | false => rw [hm] at hq; exact hq.elim
        | true =>
          rw [hm] at hq; simp only [cond_true] at hq
          have := Nat.eq_of_beq_eq_true hm; subst this
          obtain ⟨hk, hq⟩ := hq
          simp only [VRel] at hu hv; subst hv
          rcases hu with ⟨rfl, _⟩ | ⟨a, p, c, ha, rfl, hnc, hp⟩
          · omega
          · refine ⟨_, ⟨_, fun w => run_index_slice hT hti hd hte hk w, ?_⟩, hq⟩
            have := hp (by omega)
            simp only [VRel]
            exact ⟨a, ha, by rw [this, Nat.add_mul]; simp [Nat.add_assoc]⟩
      · exact hq.elim
    · exact hq.elim
  · exact hq.elim

/-! ### A byte of a string, a cell of an array -/
def strAt (s : ByteArray) (k : Nat) : Int := ((s.data.toList.getD k 0).toNat : Int)
def vIndex (tt : TT) (t : TypeId) (x ix : AV) (Q : AV → Prop) : Prop :=
  match tt t, ix with
  | some ti, .lit (.int _ k) => match ti.desc, x with
    | .string, .lit (.string s) => (0 ≤ k ∧ k < (s.size : Int)) ∧ Q (.lit (.int .u8 (strAt s k.toNat)))
    | .array n e, x => match aggOf x, tt e with
      | some cs, some te => (0 ≤ k ∧ k < (n : Int)) ∧ (match partA tt e cs (k.toNat * te.size) with
        | some v => Q v
        | none => False)
      | _, _ => False
    | _, _ => False
  | _, _ => False
theorem vIndex_ok {P : Program} {tt : TT} (hT : tt.ok P) {ρ : Ren} {t : TypeId} {x ix : AV} {u v : Value} {Q : AV → Prop} (hq : vIndex tt t x ix Q) (hu : VRel ρ x u) (hv : VRel ρ ix v) : ∃ r, NOk P (Instr.index t u v) ρ r ∧ Q r := by
  unfold vIndex at hq
  split at hq
  · rename_i ti kk k hti
    split at hq
    · rename_i s hd
      obtain ⟨hk, hq⟩ := hq
      refine ⟨_, indexN_ok (P := P) (ix := .lit (.int kk k)) (r := .lit (.int .u8 (strAt s k.toNat))) hT ?_ hu hv, hq⟩
      have hlt : k.toNat < s.size := by omega
      have hlt' : k.toNat < s.data.size := hlt
      have : s[k.toNat]? = some s[k.toNat] := by simp only [getElem?_def, hlt, dite_true]
      simp only [indexN, hti, hd, if_pos hk.1, this, strAt, List.getD_eq_getElem?_getD]
      have e : s.data.toList[k.toNat]? = some s[k.toNat] := by
        rw [Array.getElem?_toList, Array.getElem?_eq_getElem hlt']; rfl
      rw [e]; rfl
    · rename_i n e hd
      split at hq
      · rename_i cs te hcs hte
        obtain ⟨hk, hq⟩ := hq
        split at hq
        · rename_i v hp
          exact ⟨v, indexN_ok (P := P) (ix := .lit (.int kk k)) hT (by simp [indexN, hti, hd, hcs, hte, hk, hp]) hu hv, hq⟩
        · exact hq.elim
      · exact hq.elim
    · exact hq.elim
  · exact hq.elim

/-! ### Slices -/
/-- A bound. -/
def vB (x : Option AV) (d : Nat) (Q : Nat → Prop) : Prop := match x with
  | none => Q d
  | some (.lit (.int _ z)) => 0 ≤ z ∧ Q z.toNat
  | _ => False
theorem vB_ok {ρ : Ren} {x : Option AV} {d : Nat} {Q : Nat → Prop} (h : vB x d Q) {v : Option Value} (hv : ORel ρ x v) : ∃ k, Q k ∧ (x = none ∧ k = d ∨ ∃ kk, x = some (.lit (.int kk (k : Int)))) := by
  unfold vB at h
  split at h
  · exact ⟨d, h, .inl ⟨rfl, rfl⟩⟩
  · rename_i kk z
    refine ⟨z.toNat, h.2, .inr ⟨kk, ?_⟩⟩
    rw [Int.toNat_of_nonneg h.1]
  · exact h.elim
theorem bnd_of {x : Option AV} {d k lim : Nat} (h : x = none ∧ k = d ∨ ∃ kk, x = some (.lit (.int kk (k : Int)))) (hk : k ≤ lim) : bnd x d lim = some k := by
  rcases h with ⟨rfl, rfl⟩ | ⟨kk, rfl⟩
  · rfl
  · simp only [bnd]
    rw [if_pos ⟨by omega, by omega⟩, Int.toNat_natCast]
/-- The three bounds, by which a part is cut. -/
def vBnds (n c : Nat) (lo hi mx : Option AV) (Q : Nat → Nat → Nat → Prop) : Prop :=
  match hi, mx with
  | none, some _ => False
  | hi, mx => vB mx c fun m => vB hi n fun h => vB lo 0 fun l => (l ≤ h ∧ h ≤ m ∧ m ≤ c) ∧ Q l h m
theorem vBnds_ok {ρ : Ren} {n c : Nat} {lo hi mx : Option AV} {Q : Nat → Nat → Nat → Prop} (hq : vBnds n c lo hi mx Q) {vl vh vm : Option Value} (hl : ORel ρ lo vl) (hh : ORel ρ hi vh) (hm : ORel ρ mx vm) :
    ∃ l h m, Q l h m ∧ l ≤ h ∧ h ≤ m ∧ m ≤ c ∧ (mx = none → m = c) ∧ bnds n c lo hi mx = some (l, h, m) := by
  unfold vBnds at hq
  split at hq
  · exact hq.elim
  · rename_i hne
    obtain ⟨m, hq, e1⟩ := vB_ok hq hm
    obtain ⟨h, hq, e2⟩ := vB_ok hq hh
    obtain ⟨l, ⟨⟨h1, h2, h3⟩, hq⟩, e3⟩ := vB_ok hq hl
    have hmc : mx = none → m = c := fun e => by
      rcases e1 with ⟨_, e1⟩ | ⟨_, e1⟩
      · exact e1
      · rw [e] at e1; cases e1
    refine ⟨l, h, m, hq, h1, h2, h3, hmc, ?_⟩
    have b1 := bnd_of e1 h3
    have b2 := bnd_of e2 h2
    have b3 := bnd_of e3 h1
    cases mx with
    | none =>
      have := hmc rfl
      subst this
      rw [bnds_none, b2]; simp only [b3]
    | some y =>
      cases hi with
      | none => exact (hne _ rfl rfl).elim
      | some z => simp only [bnds, b1, b2, b3]

/-- A slice of a row's elements, cut. -/
def cutE (i q m n c : Nat) (lo hi mx : Option AV) (Q : AV → Prop) : Prop := vBnds n c lo hi mx fun l h c' => Q (.slE i (q + l) m (h - l) (c' - l))
def vSlice (tt : TT) (t : TypeId) (x : AV) (lo hi mx : Option AV) (h : Heap) (Q : AV → Prop) : Prop :=
  match tt t with
  | some ti => match ti.desc, x with
    | .string, .lit (.string s) => match mx with
      | none => vBnds s.size s.size lo hi none fun l h _ => Q (.lit (.string (s.extract l h)))
      | some _ => False
    | .slice e, .slE i q m n c => match tt e with
      | some te => bif Nat.beq m te.size then cutE i q m n c lo hi mx Q else False
      | none => False
    | .slice e, .slW i q m n => match tt e with
      | some te => bif Nat.beq m te.size then (match mx with
        | none => vBnds n n lo hi none fun l h _ => Q (.slW i (q + l) m (h - l))
        | some x => cutE i q m n n lo hi (some x) Q) else False
      | none => False
    | .slice e, .slR i q m n => match tt e, mx with
      | some te, none => bif Nat.beq m te.size then vBnds n n lo hi none fun l h _ => Q (.slR i (q + l) m (h - l)) else False
      | _, _ => False
    | .slice e, .sl i o n c => match tt e with
      | some te => bif Nat.beq o 0 && Nat.beq (rowM h i) te.size then cutE i 0 te.size n c lo hi mx Q else (match sliceN tt t (.sl i o n c) lo hi mx with
        | some v => Q v
        | none => False)
      | none => False
    | .slice e, .slU i o n sz => match tt e with
      | some te => bif Nat.beq o 0 && Nat.beq (rowM h i) te.size && Nat.beq sz te.size then (match mx with
        | none => vBnds n n lo hi none fun l h _ => Q (.slW i l te.size (h - l))
        | some x => cutE i 0 te.size n n lo hi (some x) Q) else (match sliceN tt t (.slU i o n sz) lo hi mx with
        | some v => Q v
        | none => False)
      | none => False
    | .slice e, .lit (.slice none n c) => match tt e with
      | some _ => vBnds n c lo hi mx fun l h m => Q (.lit (.slice none (h - l) (m - l)))
      | none => False
    | .slice e, .lit (.slice (some a) n c) => match tt e with
      | some te => vBnds n c lo hi mx fun l h m => Q (.lit (.slice (some (if m = l then a else a.add (l * te.size))) (h - l) (m - l)))
      | none => False
    | .array n e, .ptr i o => match tt e with
      | some te => bif Nat.beq o 0 && Nat.beq (rowM h i) te.size then cutE i 0 te.size n n lo hi mx Q else (match sliceN tt t (.ptr i o) lo hi mx with
        | some v => Q v
        | none => False)
      | none => False
    | _, x => match sliceN tt t x lo hi mx with
      | some v => Q v
      | none => False
  | none => False

theorem run_slice_slice {P : Program} {tt : TT} (hT : tt.ok P) {t e : TypeId} {ti te : TI} (hti : tt t = some ti) (hd : ti.desc = .slice e) (hte : tt e = some te) {b p n c l h m : Nat} {lo hi mx : Option AV} {vl vh vm : Option Value} {ρ : Ren}
    (hb : bnds n c lo hi mx = some (l, h, m)) (hl : ORel ρ lo vl) (hh : ORel ρ hi vh) (hm : ORel ρ mx vm) (w : World) :
    (Instr.sliceAt t (.slice (some ⟨b, p, none⟩) n c) vl vh vm).run P w = .ok (.slice (if m = l then some ⟨b, p, none⟩ else some ⟨b, p + l * te.size, none⟩) (h - l) (m - l)) w := by
  obtain ⟨d1, r1, _, m1⟩ := run_under (P := P) hT hti w
  rw [mkTD_slice (m1.trans hd)] at r1
  have hb' := bnds_ok (P := P) (b := true) hb hl hh hm w
  simp [Instr.sliceAt, Instr.slice, r1, hb', run_sizeOf hT hte, add_zero_spot]
/-- The part of a slice of elements is one. -/
theorem cut_rel {ρ : Ren} {i q m l h c' c : Nat} {a : Loc} {p : Nat} (ha : ρ i = some a) (hp : c ≠ 0 → p = a.base + q * m) (h1 : l ≤ h) (h2 : h ≤ c') (h3 : c' ≤ c) :
    VRel ρ (.slE i (q + l) m (h - l) (c' - l)) (.slice (if c' = l then some ⟨a.blk, p, none⟩ else some ⟨a.blk, p + l * m, none⟩) (h - l) (c' - l)) := by
  simp only [VRel]
  by_cases hc : c' = l
  · subst hc
    exact ⟨a, p, ha, by simp, by omega, by omega⟩
  · refine ⟨a, p + l * m, ha, by simp [hc], by omega, fun _ => ?_⟩
    rw [hp (by omega), Nat.add_mul, Nat.add_assoc]
theorem vSlice_ok {P : Program} {tt : TT} (hT : tt.ok P) {ρ : Ren} {t : TypeId} {x : AV} {hp : Heap} {u : Value} {lo hi mx : Option AV} {vl vh vm : Option Value} {Q : AV → Prop} (hq : vSlice tt t x lo hi mx hp Q)
    (hu : VRel ρ x u) (hl : ORel ρ lo vl) (hh : ORel ρ hi vh) (hm : ORel ρ mx vm) : ∃ r, NOk P (Instr.sliceAt t u vl vh vm) ρ r ∧ Q r := by
  have old : (match sliceN tt t x lo hi mx with | some v => Q v | none => False) → ∃ r, NOk P (Instr.sliceAt t u vl vh vm) ρ r ∧ Q r := fun h => by
    split at h
    · rename_i v hv; exact ⟨v, sliceN_ok hT hv hu hl hh hm, h⟩
    · exact h.elim
  -- a slice of elements of which the room is known
  have cut : ∀ {e : TypeId} {ti te : TI} {i q n c p : Nat} {a : Loc} {mx' : Option AV}, tt t = some ti → ti.desc = .slice e → tt e = some te → ρ i = some a → u = .slice (some ⟨a.blk, p, none⟩) n c → (c ≠ 0 → p = a.base + q * te.size) →
      ORel ρ mx' vm → ∀ c0, c0 ≤ c → (mx' = none → c0 = c) → cutE i q te.size n c0 lo hi mx' Q → ∃ r, NOk P (Instr.sliceAt t u vl vh vm) ρ r ∧ Q r := by
    intro e ti te i q n c p a mx' hti hd hte ha hu hp hm c0 hc0 hc1 hq
    obtain ⟨l, h, c', hq, h1, h2, h3, h4, hb⟩ := vBnds_ok hq hl hh hm
    have hb' : bnds n c lo hi mx' = some (l, h, c') := by
      cases mx' with
      | none => rw [← hc1 rfl]; exact hb
      | some y =>
        unfold bnds at hb ⊢
        split at hb
        · rename_i m hmm
          have e : bnd (some y) c c = bnd (some y) c0 c := by cases y <;> first | rfl | (rename_i v; cases v <;> rfl)
          rw [e, bnd_cap hmm hc0]
          exact hb
        · cases hb
    subst hu
    exact ⟨_, ⟨_, fun w => run_slice_slice hT hti hd hte hb' hl hh hm w, cut_rel ha hp h1 h2 (Nat.le_trans h3 hc0)⟩, hq⟩
  unfold vSlice at hq
  split at hq
  · rename_i ti hti
    split at hq
    · rename_i s hd
      split at hq
      · obtain ⟨l, h, m, hq, _, _, _, _, hb⟩ := vBnds_ok hq hl hh (vm := none) rfl
        exact ⟨_, sliceN_ok (P := P) (r := .lit (.string (s.extract l h))) hT (by simp [sliceN, hti, hd, hb]) hu hl hh hm, hq⟩
      · exact hq.elim
    · rename_i e i q m n c hd
      split at hq
      · rename_i te hte
        cases hmb : Nat.beq m te.size with
        | false => rw [hmb] at hq; exact hq.elim
        | true =>
          rw [hmb] at hq; simp only [cond_true] at hq
          have := Nat.eq_of_beq_eq_true hmb; subst this
          simp only [VRel] at hu
          obtain ⟨a, p, ha, hue, hnc, hp⟩ := hu
          exact cut hti hd hte ha hue hp hm c (Nat.le_refl _) (fun _ => rfl) hq
      · exact hq.elim
    · rename_i e i q m n hd
      split at hq
      · rename_i te hte
        cases hmb : Nat.beq m te.size with
        | false => rw [hmb] at hq; exact hq.elim
        | true =>
          rw [hmb] at hq; simp only [cond_true] at hq
          have := Nat.eq_of_beq_eq_true hmb; subst this
          simp only [VRel] at hu
          obtain ⟨a, p, c, ha, hue, hnc, hp⟩ := hu
          split at hq
          · obtain ⟨l, h, m', hq2, h1, h2, h3, h4, hb⟩ := vBnds_ok hq hl hh (vm := none) rfl
            simp only [ORel] at hm; subst hm
            have := h4 rfl; subst this
            have hb' := bnds_cap hb hnc
            subst hue
            refine ⟨_, ⟨_, fun w => run_slice_slice hT hti hd hte hb' hl hh (by simp [ORel]) w, ?_⟩, hq2⟩
            simp only [VRel]
            by_cases hc : c = l
            · subst hc
              exact ⟨a, p, 0, ha, by simp, by omega, by omega⟩
            · refine ⟨a, p + l * te.size, c - l, ha, by simp [hc], by omega, fun _ => ?_⟩
              obtain ⟨e1, e2⟩ := hp (by omega)
              refine ⟨by rw [e1, Nat.add_mul, Nat.add_assoc], ?_⟩
              rw [Nat.add_mul, Nat.add_assoc, ← Nat.add_mul, show l + (c - l) = c by omega]
              exact e2
          · exact cut hti hd hte ha hue (fun h => (hp h).1) hm n hnc (fun h => by cases h) hq
      · exact hq.elim
    · rename_i e i q m n hd
      split at hq
      · rename_i te hte
        cases hmb : Nat.beq m te.size with
        | false => rw [hmb] at hq; exact hq.elim
        | true =>
          rw [hmb] at hq; simp only [cond_true] at hq
          have := Nat.eq_of_beq_eq_true hmb; subst this
          simp only [VRel] at hu
          simp only [ORel] at hm; subst hm
          obtain ⟨l, h, m', hq2, h1, h2, h3, h4, hb⟩ := vBnds_ok hq hl hh (vm := none) rfl
          have := h4 rfl; subst this
          rcases hu with ⟨rfl, rfl⟩ | ⟨a, p, c, ha, rfl, hnc, hp⟩
          · obtain ⟨r, hr1, hr2⟩ := sliceN_ok (P := P) (ρ := ρ) (t := t) (x := .lit (.slice none 0 0)) (lo := lo) (hi := hi) (mx := none) (r := .lit (.slice none (h - l) (0 - l))) (vm := none) (u := .slice none 0 0) hT (by simp only [sliceN, hti, hd, hte, hb]) (by simp only [VRel]) hl hh rfl
            refine ⟨_, ⟨r, hr1, ?_⟩, hq2⟩
            simp only [VRel] at hr2 ⊢
            have h0 : h = 0 := by omega
            subst h0
            have l0 : l = 0 := by omega
            subst l0
            exact .inl ⟨rfl, by simpa using hr2⟩
          · have hb' := bnds_cap hb hnc
            refine ⟨_, ⟨_, fun w => run_slice_slice hT hti hd hte hb' hl hh (by simp [ORel]) w, ?_⟩, hq2⟩
            simp only [VRel]
            refine .inr ?_
            by_cases hc : c = l
            · subst hc
              exact ⟨a, p, 0, ha, by simp, by omega, by omega⟩
            · refine ⟨a, p + l * te.size, c - l, ha, by simp [hc], by omega, fun _ => ?_⟩
              rw [hp (by omega), Nat.add_mul, Nat.add_assoc]
      · exact hq.elim
    · rename_i e i o n c hd
      split at hq
      · rename_i te hte
        cases hb : (Nat.beq o 0 && Nat.beq (rowM hp i) te.size) with
        | false => rw [hb] at hq; exact old hq
        | true =>
          rw [hb] at hq; simp only [cond_true] at hq
          simp only [Bool.and_eq_true] at hb
          have := Nat.eq_of_beq_eq_true hb.1; subst this
          simp only [VRel] at hu
          obtain ⟨a, ha, hue⟩ := hu
          exact cut (q := 0) hti hd hte ha hue (fun _ => by simp) hm c (Nat.le_refl _) (fun _ => rfl) hq
      · exact hq.elim
    · rename_i e i o n sz hd
      split at hq
      · rename_i te hte
        cases hb : (Nat.beq o 0 && Nat.beq (rowM hp i) te.size && Nat.beq sz te.size) with
        | false => rw [hb] at hq; exact old hq
        | true =>
          rw [hb] at hq; simp only [cond_true] at hq
          simp only [Bool.and_eq_true] at hb
          have := Nat.eq_of_beq_eq_true hb.1.1; subst this
          have := Nat.eq_of_beq_eq_true hb.2; subst this
          simp only [VRel] at hu
          obtain ⟨a, c, ha, hue, hnc, hlim⟩ := hu
          split at hq
          · obtain ⟨l, h, m', hq2, h1, h2, h3, h4, hb⟩ := vBnds_ok hq hl hh (vm := none) rfl
            simp only [ORel] at hm; subst hm
            have := h4 rfl; subst this
            have hb' := bnds_cap hb hnc
            subst hue
            refine ⟨_, ⟨_, fun w => run_slice_slice hT hti hd hte hb' hl hh (by simp [ORel]) w, ?_⟩, hq2⟩
            simp only [VRel]
            by_cases hc : c = l
            · subst hc
              exact ⟨a, a.base + 0, 0, ha, by simp, by omega, by omega⟩
            · refine ⟨a, a.base + 0 + l * te.size, c - l, ha, by simp [hc], by omega, fun _ => ⟨by simp, ?_⟩⟩
              rw [← Nat.add_mul, show l + (c - l) = c by omega]
              omega
          · exact cut (q := 0) hti hd hte ha hue (fun _ => by simp) hm n hnc (fun h => by cases h) hq
      · exact hq.elim
    · rename_i e n c hd
      split at hq
      · rename_i te hte
        obtain ⟨l, h, m, hq, _, _, _, _, hb⟩ := vBnds_ok hq hl hh hm
        exact ⟨_, sliceN_ok (P := P) (r := .lit (.slice none (h - l) (m - l))) hT (by simp [sliceN, hti, hd, hte, hb]) hu hl hh hm, hq⟩
      · exact hq.elim
    · rename_i e a n c hd
      split at hq
      · rename_i te hte
        obtain ⟨l, h, m, hq, _, _, _, _, hb⟩ := vBnds_ok hq hl hh hm
        simp only [VRel] at hu; subst hu
        refine ⟨_, ⟨.slice (some (if m = l then a else a.add (l * te.size))) (h - l) (m - l), fun w => ?_, by simp only [VRel]⟩, hq⟩
        obtain ⟨d1, r1, _, m1⟩ := run_under (P := P) hT hti w
        rw [mkTD_slice (m1.trans hd)] at r1
        have hb' := bnds_ok (P := P) (b := true) hb hl hh hm w
        simp only [Instr.sliceAt, Instr.slice, r1, Sem.run_bind, Result.andThen_ok, hb', run_sizeOf hT hte]
        split <;> simp_all
      · exact hq.elim
    · rename_i n e i o hd
      split at hq
      · rename_i te hte
        cases hb : (Nat.beq o 0 && Nat.beq (rowM hp i) te.size) with
        | false => rw [hb] at hq; exact old hq
        | true =>
          rw [hb] at hq; simp only [cond_true] at hq
          simp only [Bool.and_eq_true] at hb
          have := Nat.eq_of_beq_eq_true hb.1; subst this
          obtain ⟨l, h, m, hq, h1, h2, h3, h4, hb⟩ := vBnds_ok hq hl hh hm
          obtain ⟨r, hr1, hr2⟩ := sliceN_ok (P := P) (t := t) (x := .ptr i 0) (lo := lo) (hi := hi) (mx := mx) (r := .sl i (if m = l then 0 else 0 + l * te.size) (h - l) (m - l)) hT (by simp only [sliceN, hti, hd, hte, hb]) hu hl hh hm
          refine ⟨_, ⟨r, hr1, ?_⟩, hq⟩
          simp only [VRel] at hr2 ⊢
          obtain ⟨a, ha, rfl⟩ := hr2
          exact ⟨a, _, ha, rfl, by omega, fun hc => by rw [if_neg (by omega)]; simp⟩
      · exact hq.elim
    · exact old hq
  · exact hq.elim

/-- Of a slice that may be none it is forgotten whether it is. -/
def nrm : AV → AV
  | .slZ _ i k m n => .slR i k m n
  | v => v
theorem nrm_rel {ρ : Ren} {x : AV} {u : Value} (h : VRel ρ x u) : VRel ρ (nrm x) u := by
  cases x <;> try exact h
  simp only [nrm, VRel] at h ⊢
  rcases h with ⟨_, h⟩ | ⟨_, h⟩
  · exact .inl h
  · exact .inr h
/-! ### One operation that looks at no memory -/
def vN (tt : TT) (op : Op) (ev : Operand → AV) (h : Heap) (Q : AV → Prop) : Prop :=
  match op with
  | .pick c a b => match ev c with
    | .lit (.bool t) => cP t (Q (ev a)) (Q (ev b))
    | _ => False
  | .binOp o t x y _ => vBin tt o t (ev x) (ev y) Q
  | .convert s d x => vConv tt s d (ev x) Q
  | .slice t x lo hi mx => vSlice tt t (nrm (ev x)) (mapO ev lo) (mapO ev hi) (mapO ev mx) h Q
  | .fieldAddr s x f => vField tt s (ev x) f Q
  | .indexAddr t x i => vIndexAddr tt t (nrm (ev x)) (ev i) h Q
  | .index t x i => vIndex tt t (ev x) (ev i) Q
  | op => match opN tt op ev with
    | some v => Q v
    | none => False
theorem vN_ok {P : Program} {tt : TT} (hT : tt.ok P) {ρ : Ren} {o : Oper} {ev : Operand → AV} {e : Operand → Value} (he : ∀ x, VRel ρ (ev x) (e x)) {h : Heap} {Q : AV → Prop} (hq : vN tt o.op ev h Q) :
    ∃ v u, (∀ w, (execOp e o).run P w = .ok (.value u) w) ∧ VRel ρ v u ∧ Q v := by
  have old : (match opN tt o.op ev with | some v => Q v | none => False) → ∃ v u, (∀ w, (execOp e o).run P w = .ok (.value u) w) ∧ VRel ρ v u ∧ Q v := fun hq => by
    split at hq
    · rename_i v hv
      obtain ⟨u, h1, h2⟩ := opN_ok (P := P) hT he hv
      exact ⟨v, u, h1, h2, hq⟩
    · exact hq.elim
  obtain ⟨dst, op, ty, pos, after, guard⟩ := o
  have wrap : ∀ {s : Sem Value}, (∃ r, NOk P s ρ r ∧ Q r) → ∃ v u, (∀ w, (do pure (Next.value (← s)) : Sem Next).run P w = .ok (.value u) w) ∧ VRel ρ v u ∧ Q v :=
    fun ⟨r, ⟨u, hu, hr⟩, hq⟩ => ⟨r, u, fun w => run_next (hu w), hr, hq⟩
  cases op <;> simp only [vN] at hq <;> try exact old hq
  case pick c a b =>
    split at hq
    · rename_i t ht
      have := he c
      rw [ht] at this
      simp only [VRel] at this
      rcases cP_elim hq with ⟨rfl, hq⟩ | ⟨rfl, hq⟩
      · exact ⟨_, e a, fun w => by simp [execOp, this, asBool], he a, hq⟩
      · exact ⟨_, e b, fun w => by simp [execOp, this, asBool], he b, hq⟩
    · exact hq.elim
  case binOp o t x y yt => exact wrap (vBin_ok (P := P) (xo := x) (yo := y) hT hq (he x) (he y))
  case convert s d x => exact wrap (vConv_ok (P := P) hT hq (he x))
  case slice t x lo hi mx => exact wrap (vSlice_ok (P := P) hT hq (nrm_rel (he x)) (mapO_rel he lo) (mapO_rel he hi) (mapO_rel he mx))
  case fieldAddr s x f => exact wrap (vField_ok (P := P) hT hq (he x))
  case indexAddr t x i => exact wrap (vIndexAddr_ok (P := P) hT hq (nrm_rel (he x)) (he i))
  case index t x i => exact wrap (vIndex_ok (P := P) hT hq (he x) (he i))
end Go.Proofs.YtpbdlibgbkhlhaaGreat.SE
