/- New memory; one operation of any kind. -/
import Derived.Test.YtpbdlibgbkhlhaaGreatVM
namespace Go.Proofs.YtpbdlibgbkhlhaaGreat.SE
open Go

/-- Is the operand the number 0, as the text has it? -/
def zeroConst : Operand → Bool
  | .const (.int _ z) => z == 0
  | _ => false
def vMake (tt : TT) (t : TypeId) (lz : Bool) (l c : AV) (h : Heap) (Q : AV → Heap → Prop) : Prop :=
  match tt t, l, c with
  | some ti, .lit (.int _ a), .lit (.int _ b) => match ti.desc with
    | .slice e => match tt e with
      | some te => bif Nat.beq te.zero.length te.size then (0 ≤ a ∧ a ≤ b ∧ (te.bytes : Int) * b ≤ 2 ^ 48 ∧ b < 2 ^ 62) ∧
          (bif lz then Q (.slW h.next 0 te.size 0) (h.push (.room e (.row te.size 0 (fun _ => []) []))) else Q (.slE h.next 0 te.size a.toNat b.toNat) (h.push (.cells e (.row te.size b.toNat (fun _ => te.zero) [])))) else False
      | none => False
    | _ => False
  | _, _, _ => False
theorem vMake_ok {P : Program} {tt : TT} (hT : tt.ok P) {h : Heap} {ρ : Ren} {T : Nat → Prop} {w : World} (hR : Rel h ρ T w) {t : TypeId} {lz : Bool} {l c : AV} {u v : Value} {Q : AV → Heap → Prop}
    (hq : vMake tt t lz l c h Q) (hu : VRel ρ l u) (hv : VRel ρ c v) (hz : lz = true → ∀ k a, l = .lit (.int k a) → a = 0) : XQ P (Instr.makeSlice t u v) h ρ T w Q := by
  unfold vMake at hq
  split at hq
  · rename_i ti k a k' b hti
    simp only [VRel] at hu hv; subst hu; subst hv
    split at hq
    · rename_i e hd
      split at hq
      · rename_i te hte
        cases hzz : Nat.beq te.zero.length te.size with
        | false => rw [hzz] at hq; exact hq.elim
        | true =>
          rw [hzz] at hq; simp only [cond_true] at hq
          have hzz := Nat.eq_of_beq_eq_true hzz
          obtain ⟨hc, hq⟩ := hq
          obtain ⟨arr, hrun, hasz, haget⟩ := run_make (P := P) hT (w := w) hti hd hte (k := k) (k' := k') hc hzz
          cases lz with
          | true =>
            simp only [cond_true] at hq
            have h0 := hz rfl _ _ rfl
            subst h0
            obtain ⟨ρ', h1, h2, h3, h4, h5⟩ := hR.push_room (e := e) (c := .row te.size 0 (fun _ => []) []) (arr := arr) (by simp [Cs.size]) (by intro j y hj; have := Cs.get_lt hj; simp [Cs.size] at this)
            exact ⟨_, _, ⟨_, _, ρ', hrun, h3, h1, by simp, h4, by simp only [VRel]; exact ⟨_, _, b.toNat, h2, rfl, by simp, fun _ => ⟨by simp, by simp [hasz]⟩⟩, h5⟩, hq⟩
          | false =>
            simp only [cond_false] at hq
            obtain ⟨ρ', h1, h2, h3, h4, h5⟩ := hR.push_cells (e := e) (c := .row te.size b.toNat (fun _ => te.zero) []) (arr := arr) (by simp [Cs.size, hasz]) (by
              intro j y hj
              have hlt := Cs.get_lt hj
              simp only [Cs.size] at hlt
              simp only [Cs.get, nblt_iff.2 hlt, cond_true, Cs.eff] at hj
              rw [Nat.zero_add, haget j hlt, hzz]
              cases hq : te.zero[j % te.size]? with
              | none =>
                rw [hq] at hj; cases hj
                rw [List.getElem?_eq_none_iff, hzz] at hq
                have := Nat.mod_lt j (Nat.pos_of_ne_zero (fun h0 => by rw [h0] at hlt; simp at hlt) : 0 < te.size)
                omega
              | some q => rw [hq] at hj; cases hj; exact ⟨q, rfl, by simp only [VRel]⟩)
            exact ⟨_, _, ⟨_, _, ρ', hrun, h3, h1, by simp, h4, by simp only [VRel]; exact ⟨_, _, h2, rfl, by omega, fun _ => by simp⟩, h5⟩, hq⟩
      · exact hq.elim
    · exact hq.elim
  · exact hq.elim

/-- Are the cells n times those of z? -/
def repOf : Nat → List Value → List Value → Bool
  | 0, _, l => l.isEmpty
  | n + 1, z, l => sameL z (l.take z.length) && repOf n z (l.drop z.length)
where
  sameV : Value → Value → Bool
    | .bool a, .bool b => a == b
    | .int k a, .int k' b => decide (k = k') && a == b
    | .slice none a b, .slice none c d => Nat.beq a c && Nat.beq b d
    | .pointer none, .pointer none => true
    | .map none, .map none => true
    | .string a, .string b => a.data.isEmpty && b.data.isEmpty
    | _, _ => false
  sameL : List Value → List Value → Bool
    | [], [] => true
    | a :: l, b :: m => sameV a b && sameL l m
    | _, _ => false
theorem sameV_ok {a b : Value} (h : repOf.sameV a b = true) : a = b := by
  unfold repOf.sameV at h
  split at h <;> simp at h
  · rw [h]
  · rw [h.1, h.2]
  · rw [h.1, h.2]
  · rfl
  · rfl
  · rename_i a b
    obtain ⟨⟨a⟩⟩ := a
    obtain ⟨⟨b⟩⟩ := b
    simp at h
    rw [h.1, h.2]
  
theorem sameL_ok : ∀ {l m : List Value}, repOf.sameL l m = true → l = m
  | [], [], _ => rfl
  | [], _ :: _, h => by simp [repOf.sameL] at h
  | _ :: _, [], h => by simp [repOf.sameL] at h
  | a :: l, b :: m, h => by
    simp only [repOf.sameL, Bool.and_eq_true] at h
    rw [sameV_ok h.1, sameL_ok h.2]
theorem repOf_get {z : List Value} (hz : 0 < z.length) : ∀ {n : Nat} {l : List Value}, repOf n z l = true → l.length = n * z.length ∧ ∀ k, k < l.length → l[k]? = z[k % z.length]?
  | 0, l, h => by
    have : l = [] := by simpa [repOf] using h
    subst this; simp
  | n + 1, l, h => by
    simp only [repOf, Bool.and_eq_true] at h
    have h1 := sameL_ok h.1
    obtain ⟨h2, h3⟩ := repOf_get hz h.2
    have hl : z.length = (l.take z.length).length := by rw [← h1]
    have hle : z.length ≤ l.length := by rw [List.length_take] at hl; omega
    rw [List.length_drop] at h2
    refine ⟨by rw [Nat.add_mul]; omega, fun k hk => ?_⟩
    by_cases hkz : k < z.length
    · rw [Nat.mod_eq_of_lt hkz]
      have : (l.take z.length)[k]? = l[k]? := by rw [List.getElem?_take, if_pos hkz]
      rw [← this, ← h1]
    · have := h3 (k - z.length) (by rw [List.length_drop]; omega)
      rw [List.getElem?_drop, show z.length + (k - z.length) = k by omega] at this
      rw [this, ← Nat.mod_eq_sub_mod (by omega)]
def vAlloc (tt : TT) (e : TypeId) (h : Heap) (Q : AV → Heap → Prop) : Prop :=
  match tt e with
  | some ti => match ti.desc with
    | .array n el => match tt el with
      | some te => bif Nat.blt 8 n && !Nat.beq te.zero.length 0 && Nat.beq te.zero.length te.size && repOf n te.zero ti.zero then Q (.ptr h.next 0) (h.push (.cells e (.row te.size n (fun _ => te.zero) []))) else (match allocA tt e h with
        | some (v, h') => Q v h'
        | none => False)
      | none => False
    | _ => match allocA tt e h with
      | some (v, h') => Q v h'
      | none => False
  | none => False
theorem vAlloc_ok {P : Program} {tt : TT} (hT : tt.ok P) {h : Heap} {ρ : Ren} {T : Nat → Prop} {w : World} (hR : Rel h ρ T w) {e : TypeId} {Q : AV → Heap → Prop} (hq : vAlloc tt e h Q) : XQ P (Instr.alloc e true (.tuple #[])) h ρ T w Q := by
  have old : (match allocA tt e h with | some (v, h') => Q v h' | none => False) → XQ P (Instr.alloc e true (.tuple #[])) h ρ T w Q := fun hq => by
    split at hq
    · rename_i v h' hv; exact ⟨v, h', allocA_ok hT hR hv, hq⟩
    · exact hq.elim
  unfold vAlloc at hq
  split at hq
  · rename_i ti hti
    split at hq
    · rename_i n el hd
      split at hq
      · rename_i te hte
        cases hb : (Nat.blt 8 n && !Nat.beq te.zero.length 0 && Nat.beq te.zero.length te.size && repOf n te.zero ti.zero) with
        | false => rw [hb] at hq; exact old hq
        | true =>
          rw [hb] at hq; simp only [cond_true] at hq
          simp only [Bool.and_eq_true, Bool.not_eq_true'] at hb
          obtain ⟨⟨⟨_, h0⟩, hz⟩, hrep⟩ := hb
          have h0 : 0 < te.zero.length := Nat.pos_of_ne_zero fun hh => by rw [hh] at h0; cases h0
          have hz := Nat.eq_of_beq_eq_true hz
          obtain ⟨r1, r2⟩ := repOf_get h0 hrep
          obtain ⟨z, hzr, hzc⟩ := run_zeroValue (P := P) hT hti w
          have hsz : z.cells.size = n * te.size := by rw [← Array.length_toList, hzc, r1, hz]
          obtain ⟨ρ', h1, h2, h3, h4, h5⟩ := hR.push_cells (e := e) (c := .row te.size n (fun _ => te.zero) []) (arr := z.cells) (by simp [Cs.size, hsz]) (by
            intro j y hj
            have hlt := Cs.get_lt hj
            simp only [Cs.size] at hlt
            simp only [Cs.get, nblt_iff.2 hlt, cond_true, Cs.eff] at hj
            have := r2 j (by rw [r1, hz]; exact hlt)
            rw [hz] at this
            rw [Nat.zero_add, ← Array.getElem?_toList, hzc, this]
            split at hj
            · rename_i q hq; cases hj; exact ⟨q, hq, by simp only [VRel]⟩
            · rename_i hq
              rw [List.getElem?_eq_none_iff, hz] at hq
              have := Nat.mod_lt j (by omega : 0 < te.size)
              omega)
          exact ⟨_, _, ⟨.pointer (some ⟨w.heap.size, 0, none⟩), _, ρ', by simp [Instr.alloc, hzr, newVar, newRow], h3, h1, by simp, h4, by simp only [VRel]; exact ⟨_, h2, rfl⟩, h5⟩, hq⟩
      · exact hq.elim
    · exact old hq
  · exact hq.elim

/-- Stores; a whole element of a row is laid down without a look at what it was. -/
def vStoreF (tt : TT) (t : TypeId) (a v : AV) (h : Heap) (Q : Heap → Prop) : Prop :=
  match a with
  | .ptrE i k m j => match tt t, h.get i, acells v with
    | some ti, some ob, some cs => match ob.conts, litsOf cs with
      | some (.row m' n g wr), some vs => bif Nat.beq j 0 && Nat.beq m m' && isOwnRow ob && Nat.beq vs.length ti.size && Nat.beq vs.length m && vs.all Value.oneCell' && !Nat.beq m 0 then (k < n ∧ Q (h.set i (withC ob (.row m n g ((k, vs) :: wr))))) else vStore tt t (.ptrE i k m j) v h Q
      | _, _ => False
    | _, _, _ => False
  | a => vStore tt t a v h Q
theorem vStoreF_ok {P : Program} {tt : TT} (hT : tt.ok P) {h : Heap} {ρ : Ren} {T : Nat → Prop} {w : World} (hR : Rel h ρ T w) {t : TypeId} {a v : AV} {u x : Value} {Q : Heap → Prop}
    (hl : vStoreF tt t a v h Q) (hu : VRel ρ a u) (hx : VRel ρ v x) : ∃ w' h', (Instr.storeAt t u x).run P w = .ok () w' ∧ Rel h' ρ T w' ∧ h'.next = h.next ∧ Keeps T w w' ∧ Q h' := by
  unfold vStoreF at hl
  split at hl
  · rename_i i k m j
    split at hl
    · rename_i ti ob cs hti hi hcs
      split at hl
      · rename_i m' n g wr vs hc hvs
        cases hb : (Nat.beq j 0 && Nat.beq m m' && isOwnRow ob && Nat.beq vs.length ti.size && Nat.beq vs.length m && vs.all Value.oneCell' && !Nat.beq m 0) with
        | false => rw [hb] at hl; simp only [cond_false] at hl; exact vStore_ok hT hR hl hu hx
        | true =>
          rw [hb] at hl; simp only [cond_true] at hl
          simp only [Bool.and_eq_true, List.all_eq_true, Bool.not_eq_true'] at hb
          obtain ⟨⟨⟨⟨⟨⟨hj, hm⟩, hrow⟩, hsz⟩, hvm⟩, h1⟩, hm0⟩ := hb
          have := Nat.eq_of_beq_eq_true hm; subst this
          have := Nat.eq_of_beq_eq_true hj; subst this
          have hsz := Nat.eq_of_beq_eq_true hsz
          have hvm := Nat.eq_of_beq_eq_true hvm
          have hm0 : 0 < m := Nat.pos_of_ne_zero fun h0 => by rw [h0] at hm0; cases hm0
          obtain ⟨hk, hl⟩ := hl
          simp only [VRel] at hu
          obtain ⟨a, ha, rfl⟩ := hu
          have hlr := acells_spec hcs hx
          have hcl := litsOf_spec hvs
          subst hcl
          have hxv : x.cells.toList = vs := by
            have : ∀ (l : List Value) (r : List Value), LRel ρ (l.map .lit) r → r = l := by
              intro l
              induction l with
              | nil => intro r hr; simpa [LRel] using hr
              | cons y l ih => intro r hr; simp only [List.map_cons, LRel, VRel] at hr; obtain ⟨z, zs, rfl, rfl, hr⟩ := hr; rw [ih zs hr]
            exact this _ _ hlr
          obtain ⟨w', hrun, hR', hk'⟩ := run_storeCells_ins (P := P) hR (k := k) (new := .few [vs]) (cs := vs) hm0 hi hrow hc ha (by simp only [NewEl.len, List.length_cons, List.length_nil]; omega) (by simp [NewEl.len, hvm]) h1 (fun q y hq => by
            have hlt := Cs.get_lt hq
            simp only [Cs.size, NewEl.len, List.length_cons, List.length_nil, Nat.zero_add, Nat.one_mul] at hlt
            have hq2 : q < (NewEl.few [vs]).len * m := by simp only [NewEl.len, List.length_cons, List.length_nil]; omega
            simp only [Cs.get, nblt_iff.2 hq2, cond_true, Cs.eff, NewEl.el, Nat.div_eq_of_lt hlt, Nat.mod_eq_of_lt hlt, List.getD_cons_zero] at hq
            rw [List.getElem?_eq_getElem (by omega)] at hq
            simp only [Option.some.injEq] at hq
            subst hq
            exact ⟨vs[q], by rw [Nat.zero_add]; simp [List.getElem?_eq_getElem (show q < vs.length by omega)], by simp only [VRel]⟩)
          refine ⟨w', _, ?_, hR', by simp, hk', hl⟩
          have hsz2 : x.cells.size = ti.size := by rw [← Array.length_toList, hxv, hsz]
          simp only [Instr.storeAt, Instr.sureAddr, Sem.run_bind, Sem.run_pure, Result.andThen_ok, storeVar, run_sizeOf hT hti]
          rw [if_neg (by simpa using hsz2)]
          simp only [hxv]
          exact hrun
      · exact hl.elim
    · exact hl.elim
  · exact vStore_ok hT hR hl hu hx

/-! ### One operation -/
def vX (tt : TT) (op : Op) (ev : Operand → AV) (h : Heap) (Q : AV → Heap → Prop) : Prop :=
  match op with
  | .load t x => vLoad tt t (ev x) h fun v => Q v h
  | .store t a x => vStoreF tt t (ev a) (ev x) h fun h' => Q (.lit undef) h'
  | .alloc e => vAlloc tt e h Q
  | .makeSlice t l c => vMake tt t false (ev l) (ev c) h Q
  | .makeMap t r => vMakeMap tt t r.isSome h Q
  | .insert t m k x => vMapPut tt t (ev m) (ev k) (ev x) h fun h' => Q (.lit undef) h'
  | .mapUpdate t m k x => vMapPut tt t (ev m) (ev k) (ev x) h fun h' => Q (.lit undef) h'
  | .lookup t m k ok => vLookup tt t (ev m) (ev k) ok h fun v => Q v h
  | .call c => match c.callee with
    | .builtin .append => match c.argTypes.toList, c.args.toList.map ev with
      | t :: t' :: _, x :: y :: _ => vAppend tt t t' (nrm x) (nrm y) h Q
      | _, _ => False
    | .builtin b => bif isN (.call c) then vN tt (.call c) ev h (fun v => Q v h) else (match opX false tt (.call c) ev h with
      | some (v, h') => Q v h'
      | none => False)
    | _ => False
  | op => bif isN op then vN tt op ev h (fun v => Q v h) else (match opX false tt op ev h with
    | some (v, h') => Q v h'
    | none => False)

/-- It is carried out, and what comes of it is so. -/
def XR (P : Program) (s : Sem Next) (h : Heap) (ρ : Ren) (T : Nat → Prop) (w : World) (Q : AV → Heap → Prop) : Prop :=
  ∃ v h' u w' ρ', RunsTo P s w u w' ∧ (∀ i, i < h.next → ρ' i = ρ i) ∧ ρ.le ρ' ∧ h.next ≤ h'.next ∧ Rel h' ρ' T w' ∧ VRel ρ' v u ∧ Keeps T w w' ∧ Q v h'

theorem vX_ok {P : Program} {tt : TT} (hT : tt.ok P) {h : Heap} {ρ : Ren} {T : Nat → Prop} {w : World} (hR : Rel h ρ T w) {o : Oper} {ev : Operand → AV} {e : Operand → Value} (he : ∀ x, VRel ρ (ev x) (e x)) (hcst : ∀ v, ev (.const v) = .lit v) {Q : AV → Heap → Prop} (hq : vX tt o.op ev h Q) :
    XR P (execOp e o) h ρ T w Q := by
  have wrap : ∀ {s : Sem Value}, XQ P s h ρ T w Q → XR P (do pure (Next.value (← s)) : Sem Next) h ρ T w Q := fun ⟨v, h', ⟨u, w', ρ', h1, h2, h3, h4, h5, h6, h7⟩, hq⟩ => ⟨v, h', u, w', ρ', .inl (run_next h1), h2, h3, h4, h5, h6, h7, hq⟩
  have nn : vN tt o.op ev h (fun v => Q v h) → XR P (execOp e o) h ρ T w Q := fun hq => by
    obtain ⟨v, u, h1, h2, h3⟩ := vN_ok (P := P) hT he hq
    exact ⟨v, h, u, w, ρ, .inl (h1 w), fun _ _ => rfl, Ren.le_refl _, Nat.le_refl _, hR, h2, Keeps.refl _ _, h3⟩
  have xx : (match opX false tt o.op ev h with | some (v, h') => Q v h' | none => False) → XR P (execOp e o) h ρ T w Q := fun hq => by
    split at hq
    · rename_i v h' hv
      obtain ⟨u, w', ρ', h1, h2, h3, h4, h5, h6, h7⟩ := opX_ok (P := P) hT hR he hv
      exact ⟨v, h', u, w', ρ', h1, h2, h3, h4, h5, h6, h7, hq⟩
    · exact hq.elim
  have both : ∀ b : Bool, (bif b then vN tt o.op ev h (fun v => Q v h) else (match opX false tt o.op ev h with | some (v, h') => Q v h' | none => False)) → XR P (execOp e o) h ρ T w Q := fun b hq => by
    cases b with
    | true => exact nn hq
    | false => exact xx hq
  obtain ⟨dst, op, ty, pos, after, guard⟩ := o
  cases op <;> simp only [vX] at hq <;> try exact both _ hq
  case load t x =>
    obtain ⟨v, ⟨u, h1, h2⟩, h3⟩ := vLoad_ok (P := P) hT hR hq (he x)
    exact ⟨v, h, u, w, ρ, .inl (by simp only [execOp]; exact run_next h1), fun _ _ => rfl, Ren.le_refl _, Nat.le_refl _, hR, h2, Keeps.refl _ _, h3⟩
  case store t a x =>
    obtain ⟨w', h', h1, h2, h3, h4, h5⟩ := vStoreF_ok (P := P) hT hR hq (he a) (he x)
    exact ⟨_, h', undef, w', ρ, .inr ⟨by simp [execOp, h1], rfl⟩, fun _ _ => rfl, Ren.le_refl _, by omega, h2, by simp only [VRel], h4, h5⟩
  case alloc e => exact wrap (vAlloc_ok hT hR hq)
  case makeMap t r => exact wrap (vMakeMap_ok (o := r.map e) hR (by rw [Option.isSome_map]; exact hq))
  case insert t m k x =>
    obtain ⟨w', h', h1, h2, h3, h4, h5⟩ := vMapPut_ok (P := P) hT hR hq (he m) (he k) (he x)
    exact ⟨_, h', undef, w', ρ, .inr ⟨by simp [execOp, h1], rfl⟩, fun _ _ => rfl, Ren.le_refl _, by omega, h2, by simp only [VRel], h4, h5⟩
  case mapUpdate t m k x =>
    obtain ⟨w', h', h1, h2, h3, h4, h5⟩ := vMapPut_ok (P := P) hT hR hq (he m) (he k) (he x)
    exact ⟨_, h', undef, w', ρ, .inr ⟨by simp [execOp, h1], rfl⟩, fun _ _ => rfl, Ren.le_refl _, by omega, h2, by simp only [VRel], h4, h5⟩
  case lookup t m k ok =>
    obtain ⟨v, ⟨u, h1, h2⟩, h3⟩ := vLookup_ok (P := P) hT hR hq (he m) (he k)
    exact ⟨v, h, u, w, ρ, .inl (by simp only [execOp]; exact run_next h1), fun _ _ => rfl, Ren.le_refl _, Nat.le_refl _, hR, h2, Keeps.refl _ _, h3⟩
  case makeSlice t l c =>
    exact wrap (vMake_ok hT hR hq (he l) (he c) fun hz => by cases hz)
  case call c =>
    split at hq
    · rename_i hb
      have hl : LRel ρ (c.args.toList.map ev) (c.args.map e).toList := by simpa using map_rel he c.args.toList
      split at hq
      · rename_i t t' r x y r' ht hx
        rw [hx] at hl
        obtain ⟨u0, hu0, hr0⟩ := hl.get 0 x rfl
        obtain ⟨u1, hu1, hr1⟩ := hl.get 1 y rfl
        obtain ⟨v, h', ⟨u, w', ρ', h1, h2, h3, h4, h5, h6, h7⟩, hq⟩ := vAppend_ok (P := P) (ty := ty) (ts := c.argTypes) (us := c.args.map e) hT hR hq (nrm_rel hr0) (nrm_rel hr1) (by rw [← Array.getElem?_toList, ht]; rfl) (by rw [← Array.getElem?_toList, ht]; rfl) (by simpa using hu0) (by simpa using hu1)
        refine ⟨v, h', u, w', ρ', .inl ?_, h2, h3, h4, h5, h6, h7, hq⟩
        obtain ⟨cs, hcs⟩ := resolve_builtin (e := e) hb ty P w
        simp only [execOp, Sem.run_bind, hcs, Result.andThen_ok, invoke]
        show (builtin .append c.argTypes ty cs (c.args.map e)).run P w = _
        have : (builtin .append c.argTypes ty cs (c.args.map e)).run P w = (do pure (Next.value (← Builtin.append_ c.argTypes ty (c.args.map e))) : Sem Next).run P w := rfl
        rw [this]
        simp [h1]
      · exact hq.elim
    · exact both _ hq
    · exact hq.elim
end Go.Proofs.YtpbdlibgbkhlhaaGreat.SE
