/- Frames, one operation, plans of operations, and the judgement on code. -/
import Derived.Test.YtpbdlibgbkhlhaaGreatE2
import Derived.Test.YtpbdlibgbkhlhaaGreatE8
import Derived.Control
namespace Go.Proofs.YtpbdlibgbkhlhaaGreat.SE
open Go

/-! ### Frames -/
abbrev Fr := PM AV
def look (fr : Fr) (t : Nat) : AV := match fr.get t with
  | some v => v
  | none => .any
def putF (fr : Fr) (d : Option Tmp) (v : AV) : Fr := match d with
  | some d => fr.set d (some v)
  | none => fr
def evA (fr : Fr) : Operand → AV
  | .tmp t => look fr t
  | .const v => .lit v
  | .global _ => .any
  | .func f => .fn (.func f) [] []

structure FrRel (ρ : Ren) (n : Nat) (fr : Fr) (a : Act) : Prop where
  size : a.tmps.size = n
  defers : a.defers = []
  vals : ∀ t, VRel ρ (look fr t) (a.tmps.getD t undef)

theorem look_putF {fr : Fr} {d : Tmp} {v : AV} (t : Nat) : look (putF fr (some d) v) t = if t = d then v else look fr t := by
  simp only [look, putF, PM.get_set]
  by_cases h : t = d
  · simp [h]
  · simp [h]

def dstOk (n : Nat) : Option Tmp → Bool
  | some d => Nat.blt d n
  | none => true

theorem FrRel.put {ρ : Ren} {n : Nat} {fr : Fr} {a : Act} (h : FrRel ρ n fr a) {d : Option Tmp} {v : AV} {u : Value} (hd : dstOk n d = true) (hv : VRel ρ v u) : FrRel ρ n (putF fr d v) (a.put d u) := by
  cases d with
  | none => exact h
  | some d =>
    have hd' : d < n := nblt_iff.1 hd
    refine ⟨by simp [Act.put, h.size], h.defers, fun t => ?_⟩
    rw [look_putF]
    by_cases ht : t = d
    · subst ht
      rw [if_pos rfl]
      have : t < a.tmps.size := by rw [h.size]; exact hd'
      simpa [Act.put, this] using hv
    · rw [if_neg ht]
      have := h.vals t
      simp only [Act.put, Array.getD_eq_getD_getElem?] at this ⊢
      rw [Array.getElem?_setIfInBounds_ne (Ne.symm ht)]
      exact this
theorem FrRel.mono {ρ ρ' : Ren} (hρ : ρ.le ρ') {n : Nat} {fr : Fr} {a : Act} (h : FrRel ρ n fr a) : FrRel ρ' n fr a := ⟨h.size, h.defers, fun t => VRel.mono hρ _ _ (h.vals t)⟩
theorem FrRel.ev {ρ : Ren} {n : Nat} {fr : Fr} {a : Act} (h : FrRel ρ n fr a) (x : Operand) : VRel ρ (evA fr x) (a.eval x) := by
  cases x with
  | tmp t => exact h.vals t
  | const v => simp only [evA, VRel, Act.eval]
  | global g => simp only [evA, VRel]
  | func f => simp only [evA, VRel, Act.eval]; exact ⟨#[], #[], rfl, .nil, .nil⟩

/-! ### One operation -/
def mapO (f : Operand → AV) : Option Operand → Option AV
  | none => none
  | some x => some (f x)
theorem mapO_rel {ρ : Ren} {f : Operand → AV} {g : Operand → Value} (h : ∀ x, VRel ρ (f x) (g x)) (o : Option Operand) : ORel ρ (mapO f o) (o.map g) := by
  cases o with
  | none => rfl
  | some x => exact ⟨_, rfl, h x⟩
theorem map_rel {ρ : Ren} {f : Operand → AV} {g : Operand → Value} (h : ∀ x, VRel ρ (f x) (g x)) : ∀ l : List Operand, LRel ρ (l.map f) (l.map g)
  | [] => .nil
  | x :: l => .cons (h x) (map_rel h l)
theorem mapP_rel {ρ : Ren} {f : Operand → AV} {g : Operand → Value} (h : ∀ x, VRel ρ (f x) (g x)) : ∀ l : List (Nat × Operand), PRel ρ (l.map fun p => (p.1, f p.2)) (l.map fun p => (p.1, g p.2))
  | [] => rfl
  | (_, x) :: l => ⟨_, _, rfl, h x, mapP_rel h l⟩

def bltN (tt : TT) (b : Builtin) (ts : List TypeId) (xs : List AV) : Option AV :=
  match b, ts, xs with
  | .len, t :: _, x :: _ => lenN tt t x
  | .cap, t :: _, x :: _ => capN tt t x
  | .min, _, xs => minN xs
  | .max, _, xs => maxN xs
  | _, _, _ => none

/-- What an operation yields that looks at no memory. -/
def opN (tt : TT) (op : Op) (ev : Operand → AV) : Option AV :=
  match op with
  | .move x => some (ev x)
  | .assign x => some (ev x)
  | .pick c a b => match ev c with
    | .lit (.bool t) => some (bif t then ev a else ev b)
    | _ => none
  | .nilCheck x => nilN (ev x)
  | .binOp o t x y _ => binN tt o t (ev x) (ev y)
  | .unOp o _ x => unN o (ev x)
  | .convert s d x => convN tt s d (ev x)
  | .makeFunc f a b => some (.fn f (a.toList.map ev) (b.toList.map ev))
  | .slice t x lo hi mx => sliceN tt t (ev x) (mapO ev lo) (mapO ev hi) (mapO ev mx)
  | .fieldAddr s x f => fieldAddrN tt s (ev x) f
  | .field s x f => fieldN tt s (ev x) f
  | .indexAddr t x i => indexAddrN tt t (ev x) (ev i)
  | .index t x i => indexN tt t (ev x) (ev i)
  | .extract x i => extractN (ev x) i
  | .build t ps => buildN tt t (ps.toList.map fun p => (p.1, ev p.2))
  | .call c => match c.callee with
    | .builtin b => bltN tt b c.argTypes.toList (c.args.toList.map ev)
    | _ => none
  | _ => none

theorem run_next {P : Program} {w w' : World} {s : Sem Value} {u : Value} (h : s.run P w = .ok u w') : (do pure (Next.value (← s)) : Sem Next).run P w = .ok (.value u) w' := by
  simp [h]

theorem resolve_builtin {e : Operand → Value} {c : Call} {b : Builtin} (h : c.callee = .builtin b) (ty : TypeId) (P : Program) (w : World) :
    ∃ cs, (resolve e c ty).run P w = .ok { target := .builtin b c.argTypes ty cs, args := c.args.map e } w := by
  unfold resolve
  simp only [h]
  exact ⟨_, rfl⟩

theorem opN_ok {P : Program} {tt : TT} (hT : tt.ok P) {ρ : Ren} {o : Oper} {ev : Operand → AV} {e : Operand → Value} (he : ∀ x, VRel ρ (ev x) (e x)) {v : AV} (h : opN tt o.op ev = some v) :
    ∃ u, (∀ w, (execOp e o).run P w = .ok (.value u) w) ∧ VRel ρ v u := by
  obtain ⟨dst, op, ty, pos, after, guard⟩ := o
  have wrap : ∀ {s : Sem Value}, NOk P s ρ v → ∃ u, (∀ w, (do pure (Next.value (← s)) : Sem Next).run P w = .ok (.value u) w) ∧ VRel ρ v u :=
    fun ⟨u, hu, hr⟩ => ⟨u, fun w => run_next (hu w), hr⟩
  cases op <;> simp only [opN] at h <;> try (cases h; done)
  case move x => cases h; exact ⟨e x, fun w => by simp [execOp], he x⟩
  case assign x => cases h; exact ⟨e x, fun w => by simp [execOp], he x⟩
  case pick c a b =>
    split at h
    · rename_i t ht
      cases h
      have := he c
      rw [ht] at this
      simp only [VRel] at this
      cases t with
      | true => exact ⟨e a, fun w => by simp [execOp, this, asBool], he a⟩
      | false => exact ⟨e b, fun w => by simp [execOp, this, asBool], he b⟩
    · cases h
  case nilCheck x =>
    obtain ⟨u, hu, hr⟩ := nilN_ok (P := P) h (he x)
    refine ⟨u, fun w => ?_, hr⟩
    have := hu w
    unfold nilS at this
    simp only [execOp]
    exact this
  case binOp o t x y yt => exact wrap (binN_ok (P := P) (xo := x) (yo := y) hT h (he x) (he y))
  case unOp o t x => exact wrap (unN_ok (P := P) h (he x))
  case convert s d x => exact wrap (convN_ok (P := P) hT h (he x))
  case makeFunc f a b =>
    cases h
    refine wrap (makeFunc_ok (P := P) ?_ ?_)
    · simpa using map_rel he a.toList
    · simpa using map_rel he b.toList
  case slice t x lo hi mx => exact wrap (sliceN_ok (P := P) hT h (he x) (mapO_rel he lo) (mapO_rel he hi) (mapO_rel he mx))
  case fieldAddr s x f => exact wrap (fieldAddrN_ok (P := P) hT h (he x))
  case field s x f => exact wrap (fieldN_ok (P := P) hT h (he x))
  case indexAddr t x i => exact wrap (indexAddrN_ok (P := P) hT h (he x) (he i))
  case index t x i => exact wrap (indexN_ok (P := P) hT h (he x) (he i))
  case extract x i => exact wrap (extractN_ok (P := P) h (he x))
  case build t ps =>
    refine wrap (buildN_ok (P := P) hT h ?_)
    simpa using mapP_rel he ps.toList
  case call c =>
    split at h
    · rename_i b hb
      have hl : LRel ρ (c.args.toList.map ev) (c.args.map e).toList := by simpa using map_rel he c.args.toList
      have key : ∀ {s : Array TypeId → TypeId → Array Value → Sem Value}, (∀ cs args w, (builtin b c.argTypes ty cs args).run P w = (do pure (Next.value (← s c.argTypes ty args)) : Sem Next).run P w) → NOk P (s c.argTypes ty (c.args.map e)) ρ v →
          ∃ u, (∀ w, (execOp e ⟨dst, .call c, ty, pos, after, guard⟩).run P w = .ok (.value u) w) ∧ VRel ρ v u := by
        intro s hs ⟨u, hu, hr⟩
        refine ⟨u, fun w => ?_, hr⟩
        obtain ⟨cs, hcs⟩ := resolve_builtin (e := e) hb ty P w
        simp only [execOp, Sem.run_bind, hcs, Result.andThen_ok, invoke, hs]
        simp [hu]
      have first : ∀ x r, c.args.toList.map ev = x :: r → ∃ u, (c.args.map e)[0]? = some u ∧ VRel ρ x u := fun x r hx => by
        rw [hx] at hl
        obtain ⟨u, hu, hr⟩ := hl.get 0 x rfl
        exact ⟨u, by simpa using hu, hr⟩
      have firstT : ∀ t r, c.argTypes.toList = t :: r → c.argTypes[0]? = some t := fun t r ht => by
        rw [← Array.getElem?_toList, ht]; rfl
      unfold bltN at h
      split at h
      · rename_i t r x r' ht hx
        obtain ⟨u, hu, hr⟩ := first x r' hx
        exact key (s := Builtin.len_) (fun cs args w => rfl) (lenN_ok hT h hr (firstT t r ht) hu)
      · rename_i t r x r' ht hx
        obtain ⟨u, hu, hr⟩ := first x r' hx
        exact key (s := Builtin.cap_) (fun cs args w => rfl) (capN_ok hT h hr (firstT t r ht) hu)
      · exact key (s := Builtin.min_) (fun cs args w => rfl) (minN_ok h hl)
      · exact key (s := Builtin.max_) (fun cs args w => rfl) (maxN_ok h hl)
      · cases h
    · cases h

/-- What an operation yields that reads memory. -/
def opR (tt : TT) (op : Op) (ev : Operand → AV) (h : Heap) : Option AV :=
  match op with
  | .load t x => loadA tt t (ev x) h
  | _ => none
theorem opR_ok {P : Program} {tt : TT} (hT : tt.ok P) {h : Heap} {ρ : Ren} {T : Nat → Prop} {w : World} (hR : Rel h ρ T w) {o : Oper} {ev : Operand → AV} {e : Operand → Value} (he : ∀ x, VRel ρ (ev x) (e x)) {v : AV}
    (hh : opR tt o.op ev h = some v) : ∃ u, (execOp e o).run P w = .ok (.value u) w ∧ VRel ρ v u := by
  obtain ⟨dst, op, ty, pos, after, guard⟩ := o
  cases op <;> simp only [opR] at hh <;> try (cases hh; done)
  case load t x =>
    obtain ⟨u, hu, hr⟩ := loadA_ok (P := P) hT hR hh (he x)
    exact ⟨u, by simp only [execOp]; exact run_next hu, hr⟩

def bltX (tt : TT) (b : Builtin) (ts : List TypeId) (xs : List AV) (h : Heap) : Option (AV × Heap) :=
  match b, ts, xs with
  | .append, t :: t' :: _, x :: y :: _ => appendA tt t t' x y h
  | .copy, t :: _, x :: y :: _ => copyA tt t x y h
  | _, _, _ => none

/-- What an operation does that turns memory ('u': room to be appended to). -/
def opX (u : Bool) (tt : TT) (op : Op) (ev : Operand → AV) (h : Heap) : Option (AV × Heap) :=
  match op with
  | .alloc e => allocA tt e h
  | .box e x => boxA e (ev x) h
  | .store t a x => match storeA tt t (ev a) (ev x) h with
    | some h' => some (.lit undef, h')
    | none => none
  | .makeSlice t l c => bif u then makeU tt t (ev l) (ev c) h else makeA tt t (ev l) (ev c) h
  | .buildSlice t n ps => buildSliceA tt t n (ps.toList.map fun p => (p.1, ev p.2)) h
  | .call c => match c.callee with
    | .builtin b => bltX tt b c.argTypes.toList (c.args.toList.map ev) h
    | _ => none
  | _ => none

/-- It yields u, or nothing. -/
def RunsTo (P : Program) (s : Sem Next) (w : World) (u : Value) (w' : World) : Prop := s.run P w = .ok (.value u) w' ∨ (s.run P w = .ok .skip w' ∧ u = undef)

theorem opX_ok {P : Program} {tt : TT} (hT : tt.ok P) {h h' : Heap} {ρ : Ren} {T : Nat → Prop} {w : World} (hR : Rel h ρ T w) {b : Bool} {o : Oper} {ev : Operand → AV} {e : Operand → Value} (he : ∀ x, VRel ρ (ev x) (e x)) {v : AV}
    (hh : opX b tt o.op ev h = some (v, h')) : ∃ u w' ρ', RunsTo P (execOp e o) w u w' ∧ (∀ i, i < h.next → ρ' i = ρ i) ∧ ρ.le ρ' ∧ h.next ≤ h'.next ∧ Rel h' ρ' T w' ∧ VRel ρ' v u ∧ Keeps T w w' := by
  obtain ⟨dst, op, ty, pos, after, guard⟩ := o
  have wrap : ∀ {s : Sem Value}, XOk P s h ρ T w v h' → ∃ u w' ρ', RunsTo P (do pure (Next.value (← s)) : Sem Next) w u w' ∧ (∀ i, i < h.next → ρ' i = ρ i) ∧ ρ.le ρ' ∧ h.next ≤ h'.next ∧ Rel h' ρ' T w' ∧ VRel ρ' v u ∧ Keeps T w w' :=
    fun ⟨u, w', ρ', h1, h2⟩ => ⟨u, w', ρ', .inl (run_next h1), h2⟩
  cases op <;> simp only [opX] at hh <;> try (cases hh; done)
  case alloc el => exact wrap (allocA_ok hT hR hh)
  case box el x => exact wrap (boxA_ok hR hh (he x))
  case store t a x =>
    split at hh
    · rename_i h2 hs
      cases hh
      obtain ⟨w', hrun, hR', hn, hk⟩ := storeA_ok (P := P) hT hR hs (he a) (he x)
      exact ⟨undef, w', ρ, .inr ⟨by simp [execOp, hrun], rfl⟩, fun _ _ => rfl, Ren.le_refl _, by omega, hR', by simp only [VRel], hk⟩
    · cases hh
  case makeSlice t l c =>
    cases b with
    | true => exact wrap (makeU_ok hT hR hh (he l) (he c))
    | false => exact wrap (makeA_ok hT hR hh (he l) (he c))
  case buildSlice t n ps =>
    refine wrap (buildSliceA_ok hT hR hh ?_)
    simpa using mapP_rel he ps.toList
  case call c =>
    split at hh
    · rename_i bb hb
      have hl : LRel ρ (c.args.toList.map ev) (c.args.map e).toList := by simpa using map_rel he c.args.toList
      have key : ∀ {s : Array TypeId → TypeId → Array Value → Sem Value}, (∀ cs args w, (builtin bb c.argTypes ty cs args).run P w = (do pure (Next.value (← s c.argTypes ty args)) : Sem Next).run P w) →
          XOk P (s c.argTypes ty (c.args.map e)) h ρ T w v h' →
          ∃ u w' ρ', RunsTo P (execOp e ⟨dst, .call c, ty, pos, after, guard⟩) w u w' ∧ (∀ i, i < h.next → ρ' i = ρ i) ∧ ρ.le ρ' ∧ h.next ≤ h'.next ∧ Rel h' ρ' T w' ∧ VRel ρ' v u ∧ Keeps T w w' := by
        intro s hs ⟨u, w', ρ', h1, h2⟩
        refine ⟨u, w', ρ', .inl ?_, h2⟩
        obtain ⟨cs, hcs⟩ := resolve_builtin (e := e) hb ty P w
        simp only [execOp, Sem.run_bind, hcs, Result.andThen_ok, invoke, hs]
        simp [h1]
      unfold bltX at hh
      split at hh
      · rename_i t t' r x y r' ht hx
        rw [hx] at hl
        obtain ⟨u0, hu0, hr0⟩ := hl.get 0 x rfl
        obtain ⟨u1, hu1, hr1⟩ := hl.get 1 y rfl
        exact key (s := Builtin.append_) (fun cs args w => rfl) (appendA_ok hT hR hh hr0 hr1 (by rw [← Array.getElem?_toList, ht]; rfl) (by rw [← Array.getElem?_toList, ht]; rfl) (by simpa using hu0) (by simpa using hu1))
      · rename_i t r x y r' ht hx
        rw [hx] at hl
        obtain ⟨u0, hu0, hr0⟩ := hl.get 0 x rfl
        obtain ⟨u1, hu1, hr1⟩ := hl.get 1 y rfl
        exact key (s := Builtin.copy_) (fun cs args w => rfl) (copyA_ok hT hR hh hr0 hr1 (by rw [← Array.getElem?_toList, ht]; rfl) (by simpa using hu0) (by simpa using hu1))
      · cases hh
    · cases hh
end Go.Proofs.YtpbdlibgbkhlhaaGreat.SE
