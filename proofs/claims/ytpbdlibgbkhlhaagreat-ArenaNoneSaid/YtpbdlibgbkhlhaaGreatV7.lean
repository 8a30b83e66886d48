/- A region that draws its order: what only looks may come at any time. -/
import Derived.Test.YtpbdlibgbkhlhaaGreatV6
namespace Go.Proofs.YtpbdlibgbkhlhaaGreat.SE
open Go

/-! ### Slots and edges -/
def opSlots (op : Op) : List Nat := op.operands.toList.filterMap fun x => match x with
  | .tmp t => some t
  | _ => none
def gSlots (ops : Array Oper) (o : Oper) : List Nat := match o.guard with
  | some (j, _) => match ops[j]? with
    | some oj => oj.dst.toList
    | none => []
  | none => []
/-- The slots that an operation looks at. -/
def oSlots (ops : Array Oper) (o : Oper) : List Nat := gSlots ops o ++ opSlots o.op
def slotsOf (ops : Array Oper) (i : Nat) : List Nat := match ops[i]? with
  | some o => oSlots ops o
  | none => []
def dstOf (ops : Array Oper) (i : Nat) : Option Nat := match ops[i]? with
  | some o => o.dst
  | none => none
/-- The slots that operations write. -/
def DS (ops : Array Oper) (l : List Nat) : List Nat := l.filterMap (dstOf ops)
def hasEdge (ops : Array Oper) (q j : Nat) : Bool := match ops[q]? with
  | some o => o.after.toList.any fun e => Region.binds .any e && Nat.beq e.on j
  | none => false
def ancGo (ops : Array Oper) (i : Nat) : Nat → List Nat → List Nat
  | 0, m => m
  | j + 1, m => ancGo ops i j (bif hasEdge ops i j || m.any (fun q => hasEdge ops q j) then j :: m else m)
/-- What must come ahead of i. -/
def anc (ops : Array Oper) (i : Nat) : List Nat := ancGo ops i ops.size []
def Closed (ops : Array Oper) (s : Array Bool) : Prop := ∀ i j, s.getD i false = true → hasEdge ops i j = true → s.getD j false = true
theorem ancGo_ok {ops : Array Oper} {s : Array Bool} (hc : Closed ops s) {i : Nat} (hi : ∀ j, hasEdge ops i j = true → s.getD j false = true) : ∀ (n : Nat) (m : List Nat), (∀ q ∈ m, s.getD q false = true) → ∀ q ∈ ancGo ops i n m, s.getD q false = true
  | 0, m, hm => hm
  | j + 1, m, hm => by
    refine ancGo_ok hc hi j _ fun q hq => ?_
    cases hb : (hasEdge ops i j || m.any (fun q => hasEdge ops q j)) with
    | false => rw [hb] at hq; exact hm q hq
    | true =>
      rw [hb] at hq
      rcases List.mem_cons.1 hq with rfl | hq
      · simp only [Bool.or_eq_true, List.any_eq_true] at hb
        rcases hb with hb | ⟨x, hx, hb⟩
        · exact hi _ hb
        · exact hc x _ (hm x hx) hb
      · exact hm q hq
theorem anc_ok {ops : Array Oper} {s : Array Bool} (hc : Closed ops s) {i : Nat} (hi : i ∈ Region.ready .any ops s) : ∀ q ∈ anc ops i, s.getD q false = true := by
  refine ancGo_ok hc (fun j hj => ?_) _ _ (fun q hq => by cases hq)
  obtain ⟨_, o, ho, hall⟩ := mem_ready.1 hi
  simp only [hasEdge, ho, List.any_eq_true, Bool.and_eq_true] at hj
  obtain ⟨e, he, hb, hj⟩ := hj
  have := hall e (by simpa using he) hb
  rwa [Nat.eq_of_beq_eq_true hj] at this
theorem closed_set {ops : Array Oper} {s : Array Bool} (hc : Closed ops s) {i : Nat} (hi : i ∈ Region.ready .any ops s) : Closed ops (s.setIfInBounds i true) := by
  intro q j hq hj
  by_cases hqi : i = q
  · subst hqi
    obtain ⟨_, o, ho, hall⟩ := mem_ready.1 hi
    simp only [hasEdge, ho, List.any_eq_true, Bool.and_eq_true] at hj
    obtain ⟨e, he, hb, hj⟩ := hj
    have := hall e (by simpa using he) hb
    rw [Nat.eq_of_beq_eq_true hj] at this
    exact getD_set_true this
  · rw [getD_set_ne false hqi] at hq
    exact getD_set_true (hc q j hq hj)

/-! ### Frames of which some slots are not known -/
def killF : Fr → List Nat → Fr
  | fr, [] => fr
  | fr, d :: l => killF (fr.set d none) l
theorem look_kill : ∀ (l : List Nat) (fr : Fr) (t : Nat), look (killF fr l) t = if t ∈ l then .any else look fr t
  | [], fr, t => by simp [killF]
  | d :: l, fr, t => by
    simp only [killF]
    rw [look_kill l]
    by_cases h1 : t ∈ l
    · simp [h1]
    · by_cases h2 : t = d
      · subst h2; simp [h1, look, PM.get_set]
      · simp [h1, h2, look, PM.get_set]
theorem evA_kill {fr : Fr} {l : List Nat} {op : Op} (h : ∀ t ∈ opSlots op, t ∉ l) : ∀ x ∈ op.operands, evA fr x = evA (killF fr l) x := by
  intro x hx
  cases x with
  | tmp t =>
    have : t ∈ opSlots op := by simp only [opSlots, List.mem_filterMap]; exact ⟨.tmp t, by simpa using hx, rfl⟩
    simp only [evA, look_kill, if_neg (h t this)]
  | const v => rfl
  | global g => rfl
  | func f => rfl

/-- The slots S alone. -/
def keepF (fr : Fr) : List Nat → Fr
  | [] => .leaf
  | t :: S => (keepF fr S).set t (some (look fr t))
theorem look_keep (fr : Fr) : ∀ (S : List Nat) (t : Nat), look (keepF fr S) t = if t ∈ S then look fr t else .any
  | [], t => by simp [keepF, look, PM.get_leaf]
  | s :: S, t => by
    have ih := look_keep fr S t
    have : look (keepF fr (s :: S)) t = if t = s then look fr s else look (keepF fr S) t := by
      simp only [keepF, look, PM.get_set]
      by_cases h : t = s
      · simp [h]
      · simp [h]
    rw [this, ih]
    by_cases h : t = s
    · simp [h]
    · simp [h]
structure SlotRel (ρ : Ren) (n : Nat) (fr : Fr) (a : Act) (S : List Nat) : Prop where
  size : a.tmps.size = n
  defers : a.defers = []
  vals : ∀ t ∈ S, VRel ρ (look fr t) (a.tmps.getD t undef)
theorem SlotRel.keep {ρ : Ren} {n : Nat} {fr : Fr} {a : Act} {S : List Nat} (h : SlotRel ρ n fr a S) : FrRel ρ n (keepF fr S) a := ⟨h.size, h.defers, fun t => by
  rw [look_keep]
  by_cases ht : t ∈ S
  · rw [if_pos ht]; exact h.vals t ht
  · rw [if_neg ht]; simp only [VRel]⟩
theorem SlotRel.of_kill {ρ : Ren} {n : Nat} {fr : Fr} {a : Act} {l S : List Nat} (h : FrRel ρ n (killF fr l) a) (hl : ∀ t ∈ S, t ∉ l) : SlotRel ρ n fr a S := ⟨h.size, h.defers, fun t ht => by
  have := h.vals t
  rw [look_kill, if_neg (hl t ht)] at this
  exact this⟩
theorem SlotRel.sub {ρ : Ren} {n : Nat} {fr fr' : Fr} {a : Act} {S S' : List Nat} (h : SlotRel ρ n fr a S) (hs : ∀ t ∈ S', t ∈ S) (hl : ∀ t ∈ S', look fr' t = look fr t) : SlotRel ρ n fr' a S' := ⟨h.size, h.defers, fun t ht => by rw [hl t ht]; exact h.vals t (hs t ht)⟩
theorem evA_keep {fr : Fr} {S : List Nat} {op : Op} (h : ∀ t ∈ opSlots op, t ∈ S) : ∀ x ∈ op.operands, evA fr x = evA (keepF fr S) x := by
  intro x hx
  cases x with
  | tmp t =>
    have : t ∈ opSlots op := by simp only [opSlots, List.mem_filterMap]; exact ⟨.tmp t, by simpa using hx, rfl⟩
    simp only [evA, look_keep, if_pos (h t this)]
  | const v => rfl
  | global g => rfl
  | func f => rfl

/-! ### Guards -/
def vGuard (ops : Array Oper) (o : Oper) (fr : Fr) (yes no : Fr → Prop) : Prop := match o.guard with
  | none => yes fr
  | some (j, want) => match ops[j]? with
    | some oj => match oj.dst with
      | some d => match look fr d with
        | .lit (.bool b) => cP b (bif want then yes (putF fr (some d) (.lit (.bool true))) else no (putF fr (some d) (.lit (.bool true)))) (bif want then no (putF fr (some d) (.lit (.bool false))) else yes (putF fr (some d) (.lit (.bool false))))
        | .lit (.tuple _) => no fr
        | _ => False
      | none => False
    | none => False
/-- The two frames say the same. -/
def Same (fr fr' : Fr) : Prop := ∀ t, look fr' t = look fr t
theorem Same.put {fr : Fr} {d : Nat} {v : AV} (h : look fr d = v) : Same fr (putF fr (some d) v) := fun t => by
  rw [look_putF]; by_cases ht : t = d
  · rw [if_pos ht, ht, h]
  · rw [if_neg ht]
/-- A test of a guard: in each state that fits, the operation is wanted, or it is not. -/
theorem vGuard_ok {ops : Array Oper} {o : Oper} {fr : Fr} {yes no : Fr → Prop} (h : vGuard ops o fr yes no) :
    (∃ fr', Same fr fr' ∧ yes fr' ∧ ∀ ρ n a, SlotRel ρ n fr a (gSlots ops o) → Region.wanted o (yielded ops a.tmps) = true) ∨
    (∃ fr', Same fr fr' ∧ no fr' ∧ ∀ ρ n a, SlotRel ρ n fr a (gSlots ops o) → Region.wanted o (yielded ops a.tmps) = false) := by
  unfold vGuard at h
  have wnt : ∀ {b : Bool}, wantedA ops o fr = some b → ∀ ρ n a, SlotRel ρ n fr a (gSlots ops o) → Region.wanted o (yielded ops a.tmps) = b := by
    intro b hb ρ n a hs
    refine wantedA_ok hs.keep ?_
    unfold wantedA at hb ⊢
    split at hb
    · rename_i hg; try simp only [hg]
      exact hb
    · rename_i j want hg
      try simp only [hg]
      split at hb
      · rename_i oj hoj
        try simp only [hoj]
        split at hb
        · rename_i d hd
          try simp only [hd]
          rw [look_keep, if_pos (by simp [gSlots, hg, hoj, hd])]
          exact hb
        · cases hb
      · cases hb
  split at h
  · rename_i hg
    exact .inl ⟨fr, fun _ => rfl, h, wnt (by simp [wantedA, hg])⟩
  · rename_i j want hg
    split at h
    · rename_i oj hoj
      split at h
      · rename_i d hd
        split at h
        · rename_i b hb
          have hw : wantedA ops o fr = some (b == want) := by simp [wantedA, hg, hoj, hd, hb]
          rcases cP_elim h with ⟨rfl, h⟩ | ⟨rfl, h⟩
          · cases want with
            | true => exact .inl ⟨_, Same.put hb, h, wnt (by simpa using hw)⟩
            | false => exact .inr ⟨_, Same.put hb, h, wnt (by simpa using hw)⟩
          · cases want with
            | true => exact .inr ⟨_, Same.put hb, h, wnt (by simpa using hw)⟩
            | false => exact .inl ⟨_, Same.put hb, h, wnt (by simpa using hw)⟩
        · rename_i x hx
          exact .inr ⟨fr, fun _ => rfl, h, wnt (by simp [wantedA, hg, hoj, hd, hx])⟩
        · exact h.elim
      · exact h.elim
    · exact h.elim

/-! ### An operation that only looks -/
def isLoad : Op → Bool
  | .load .. => true
  | _ => false
def vLook (tt : TT) (op : Op) (ev : Operand → AV) (h : Heap) (Q : AV → Prop) : Prop := match op with
  | .load t x => vLoad tt t (ev x) h Q
  | op => bif isN op then vN tt op ev h Q else False
def vStill (tt : TT) (n : Nat) (ops : Array Oper) (i : Nat) (fr : Fr) (h : Heap) (Q : Fr → Prop) : Prop := match ops[i]? with
  | some o => bif dstOk n o.dst then vGuard ops o fr (fun fr1 => vLook tt o.op (evA fr1) h fun v => Q (putF fr1 o.dst v)) (fun fr1 => Q (putF fr1 o.dst (.lit undef))) else False
  | none => False

section
variable {P : Program} {tt : TT} {n : Nat} {ops : Array Oper}
/-- In each state that fits it yields what the frame tells of its slot. -/
def StillAt (P : Program) (n : Nat) (ops : Array Oper) (i : Nat) (fr : Fr) (h : Heap) : Prop := ∃ o, ops[i]? = some o ∧ dstOk n o.dst = true ∧
  ∀ ρ T w a, (isLoad o.op = true → Rel h ρ T w) → SlotRel ρ n fr a (oSlots ops o) → ∃ u, YieldsAt P ops w o u a ∧ ∀ d, o.dst = some d → VRel ρ (look fr d) u
theorem vLook_ok (hT : tt.ok P) {o : Oper} {ev : Operand → AV} {h : Heap} {Q : AV → Prop} (hq : vLook tt o.op ev h Q) : ∃ v, Q v ∧ ∀ ρ T w e, (isLoad o.op = true → Rel h ρ T w) → (∀ x, VRel ρ (ev x) (e x)) → ∃ u, (execOp e o).run P w = .ok (.value u) w ∧ VRel ρ v u := by
  obtain ⟨dst, op, ty, pos, after, guard⟩ := o
  have nn : ∀ b : Bool, (bif b then vN tt op ev h Q else False) → ∃ v, Q v ∧ ∀ (ρ : Ren) (T : Nat → Prop) (w : World) (e : Operand → Value), (isLoad op = true → Rel h ρ T w) → (∀ x, VRel ρ (ev x) (e x)) → ∃ u, (execOp e ⟨dst, op, ty, pos, after, guard⟩).run P w = .ok (.value u) w ∧ VRel ρ v u := fun b hq => by
    cases b with
    | false => exact hq.elim
    | true =>
      obtain ⟨v, h1, h2⟩ := vN_det hq
      refine ⟨v, h1, fun ρ T w e _ he => ?_⟩
      obtain ⟨v', u, h3, h4, rfl⟩ := vN_ok (P := P) (o := ⟨dst, op, ty, pos, after, guard⟩) hT he h2
      exact ⟨u, h3 w, h4⟩
  cases op <;> simp only [vLook] at hq <;> try exact nn _ hq
  case load t x =>
    obtain ⟨v, h1, h2⟩ := vLoad_det hq
    refine ⟨v, h1, fun ρ T w e hR he => ?_⟩
    obtain ⟨v', ⟨u, h3, h4⟩, rfl⟩ := vLoad_ok (P := P) hT (hR rfl) h2 (he x)
    exact ⟨u, by simp only [execOp]; exact run_next h3, h4⟩
theorem vLook_det {op : Op} {ev : Operand → AV} {h : Heap} {Q : AV → Prop} (hq : vLook tt op ev h Q) : ∃ v, Q v ∧ vLook tt op ev h (fun r => r = v) := by
  have nn : ∀ b : Bool, (bif b then vN tt op ev h Q else False) → ∃ v, Q v ∧ (bif b then vN tt op ev h (fun r => r = v) else False) := fun b hq => by
    cases b with
    | false => exact hq.elim
    | true => exact vN_det hq
  cases op
  case load t x => exact vLoad_det hq
  all_goals
    simp only [vLook] at hq ⊢
    exact nn _ hq
theorem vLook_congr {op : Op} {ev ev' : Operand → AV} {h : Heap} {Q : AV → Prop} (he : ∀ x ∈ op.operands, ev x = ev' x) : vLook tt op ev h Q = vLook tt op ev' h Q := by
  have := vN_congr (tt := tt) (hp := h) (Q := Q) he
  cases op <;> simp only [vLook] <;> try rw [this]
  case load t x => simp [Op.operands] at he; rw [he]

theorem vStill_ok (hT : tt.ok P) {i : Nat} {fr : Fr} {h : Heap} {Q : Fr → Prop} (hs : ∀ o d, ops[i]? = some o → o.dst = some d → d ∉ oSlots ops o) (hq : vStill tt n ops i fr h Q) :
    ∃ o fr', ops[i]? = some o ∧ Q fr' ∧ (∀ t, (∀ d, o.dst = some d → t ≠ d) → look fr' t = look fr t) ∧ StillAt P n ops i fr' h := by
  unfold vStill at hq
  split at hq
  · rename_i o ho
    cases hd : dstOk n o.dst with
    | false => rw [hd] at hq; exact hq.elim
    | true =>
      rw [hd] at hq; simp only [cond_true] at hq
      have agree : ∀ {fr1 : Fr} {v : AV}, Same fr fr1 → ∀ t, (∀ d, o.dst = some d → t ≠ d) → look (putF fr1 o.dst v) t = look fr t := fun {fr1 v} hsame t ht => by
        cases hod : o.dst with
        | none => simp only [putF]; exact hsame t
        | some d => rw [look_putF, if_neg (ht d hod)]; exact hsame t
      have back : ∀ {fr1 : Fr} {v : AV} {ρ : Ren} {a : Act}, Same fr fr1 → SlotRel ρ n (putF fr1 o.dst v) a (oSlots ops o) → SlotRel ρ n fr a (oSlots ops o) := fun {fr1 v ρ a} hsame hf =>
        hf.sub (fun t ht => ht) fun t ht => (agree hsame t fun d hod hh => hs o d ho hod (by rw [← hh]; exact ht)).symm
      have gd : ∀ {fr' : Fr} {ρ : Ren} {a : Act}, SlotRel ρ n fr' a (oSlots ops o) → SlotRel ρ n fr' a (gSlots ops o) := fun hf => hf.sub (fun t ht => by simp [oSlots, ht]) fun t _ => rfl
      rcases vGuard_ok hq with ⟨fr1, hsame, hq, hw⟩ | ⟨fr1, hsame, hq, hw⟩
      · obtain ⟨v, hv, hy⟩ := vLook_det hq
        refine ⟨o, _, ho, hv, agree hsame, o, ho, hd, fun ρ T w a hR hf => ?_⟩
        have hf0 := back hsame hf
        have hf1 : SlotRel ρ n fr1 a (oSlots ops o) := hf0.sub (fun t ht => ht) fun t _ => hsame t
        rw [vLook_congr (evA_keep (fr := fr1) (S := oSlots ops o) fun t ht => by simp [oSlots, ht])] at hy
        obtain ⟨v', hv', hy2⟩ := vLook_ok (P := P) hT hy
        obtain ⟨u, h1, h2⟩ := hy2 ρ T w a.eval hR (fun x => hf1.keep.ev x)
        rw [hv'] at h2
        refine ⟨u, .inl ⟨hw ρ n a (gd hf0), .inl h1⟩, fun d hod => ?_⟩
        rw [hod, look_putF, if_pos rfl]; exact h2
      · refine ⟨o, _, ho, hq, agree hsame, o, ho, hd, fun ρ T w a hR hf => ?_⟩
        refine ⟨undef, .inr ⟨hw ρ n a (gd (back hsame hf)), rfl⟩, fun d hod => ?_⟩
        rw [hod, look_putF, if_pos rfl]; simp only [VRel]
  · exact hq.elim

theorem FrRel.same {ρ : Ren} {fr fr' : Fr} {a : Act} (h : FrRel ρ n fr a) (hs : ∀ t, look fr' t = look fr t ∨ look fr' t = .any) : FrRel ρ n fr' a := ⟨h.size, h.defers, fun t => by
  rcases hs t with h' | h'
  · rw [h']; exact h.vals t
  · rw [h']; simp only [VRel]⟩

/-! ### An operation that acts -/
abbrev WFn := FuncId → List AV → Heap → (AV → Heap → Prop) → Prop
/-- A function without a Go text of its own: a call of it is one operation. -/
def XSp (P : Program) (f : FuncId) (args : List AV) (h : Heap) (K : AV → Heap → Prop) : Prop := ∀ ρ T w vs, Rel h ρ T w → LRel ρ args vs.toList →
  ∃ v h' u w' ρ', (callFunc f vs).run P w = .ok (.value u) w' ∧ (∀ i, i < h.next → ρ' i = ρ i) ∧ ρ.le ρ' ∧ h.next ≤ h'.next ∧ Rel h' ρ' T w' ∧ VRel ρ' v u ∧ Keeps T w w' ∧ K v h'
def SpE (P : Program) (f : FuncId) (args : List AV) (h : Heap) (K : AV → Heap → Prop) : Prop := Sp P f args h K ∨ XSp P f args h K
def WOk (P : Program) (call : WFn) : Prop := ∀ g args h K, call g args h K → SpE P g args h K
def vDo (call : WFn) (tt : TT) (op : Op) (ev : Operand → AV) (h : Heap) (K : AV → Heap → Prop) : Prop := match op with
  | .call c => match c.callee with
    | .value x => match ev x with
      | .fn (.func g) first cap => call g (first ++ c.args.toList.map ev ++ cap) h K
      | _ => False
    | _ => vX tt (.call c) ev h K
  | op => vX tt op ev h K
def vAct (call : WFn) (tt : TT) (n : Nat) (ops : Array Oper) (i : Nat) (fr : Fr) (h : Heap) (Q : Fr → Heap → Prop) : Prop := match ops[i]? with
  | some o => bif dstOk n o.dst then vGuard ops o fr (fun fr1 => vDo call tt o.op (evA fr1) h fun v h' => Q (putF fr1 o.dst v) h') (fun fr1 => Q (putF fr1 o.dst (.lit undef)) h) else False
  | none => False
theorem vDo_congr {call : WFn} {op : Op} {ev ev' : Operand → AV} {h : Heap} {K : AV → Heap → Prop} (he : ∀ x ∈ op.operands, ev x = ev' x) : vDo call tt op ev h K = vDo call tt op ev' h K := by
  have e := vX_congr (tt := tt) (hp := h) (Q := K) he
  cases op <;> simp only [vDo] <;> try rw [e]
  case call c =>
    have e1 : c.args.toList.map ev = c.args.toList.map ev' := map_congr fun x hx => he x (by simp [Op.operands, Call.operands]; exact .inr (by simpa using hx))
    split
    · rename_i x hx
      have e2 : ev x = ev' x := he x (by simp [Op.operands, Call.operands, hx])
      rw [e1, e2]
    · first | rfl | rw [e]
/-- What comes of an operation that was carried out. -/
def Then (ρ : Ren) (T : Nat → Prop) (w : World) (h : Heap) (a : Act) (d : Option Nat) (K : AV → Heap → Prop) (a' : Act) (w' : World) : Prop :=
  ∃ v h' u ρ', a' = a.put d u ∧ (∀ i, i < h.next → ρ' i = ρ i) ∧ ρ.le ρ' ∧ h.next ≤ h'.next ∧ Rel h' ρ' T w' ∧ VRel ρ' v u ∧ Keeps T w w' ∧ K v h'
theorem vDo_ok (hT : tt.ok P) {call : WFn} (hc : WOk P call) {Q : Exit → Act → World → Prop} {i : Nat} {o : Oper} (ho : ops[i]? = some o) {fr : Fr} {h : Heap} {K : AV → Heap → Prop} {ρ : Ren} {T : Nat → Prop} {w : World} {a : Act} (hR : Rel h ρ T w)
    (hf : FrRel ρ n fr a) (hw : Region.wanted o (yielded ops a.tmps) = true) (hq : vDo call tt o.op (evA fr) h K) : wpOp P ops Q i (Then ρ T w h a o.dst K) a w := by
  have xx : vX tt o.op (evA fr) h K → wpOp P ops Q i (Then ρ T w h a o.dst K) a w := fun hq => by
    obtain ⟨v, h', u, w', ρ', h1, h2, h3, h4, h5, h6, h7, h8⟩ := vX_ok (P := P) hT hR (fun x => hf.ev x) (fun v => rfl) hq
    exact wpOp_runs ho hw h1 ⟨v, h', u, ρ', rfl, h2, h3, h4, h5, h6, h7, h8⟩
  obtain ⟨dst, op, ty, pos, after, guard⟩ := o
  cases op <;> simp only [vDo] at hq <;> try exact xx hq
  case call c =>
    split at hq
    · rename_i x hcx
      split at hq
      · rename_i g first cap hx
        have hspec := hc _ _ _ _ hq
        have hxv := hf.ev x
        rw [hx] at hxv
        simp only [VRel] at hxv
        obtain ⟨fa, ca, hxe, hfa, hca⟩ := hxv
        have hargs : LRel ρ (first ++ c.args.toList.map (evA fr) ++ cap) (fa ++ c.args.map a.eval ++ ca).toList := by
          simp only [Array.toList_append, Array.toList_map]
          exact (hfa.append (map_rel (fun y => hf.ev y) _)).append hca
        rcases hspec with hspec | hspec
        · have hrun : (execOp a.eval ⟨dst, .call c, ty, pos, after, guard⟩).run P w = .ok (.enter g (fa ++ c.args.map a.eval ++ ca)) w := by
            simp only [execOp, resolve, hcx, hxe, Sem.run_bind, Deferred.ofValue, Sem.run_pure, Result.andThen_ok, invoke]
            exact callable_run hspec.1 _ _
          unfold wpOp
          simp only [ho, hw, if_true, Oper.wp, hrun, Oper.upon]
          refine .inl ((hspec.2 ρ T w _ hR hargs).mono ?_)
          rintro e w' ⟨ρ', v, u, h', h1, h2, h3, h4, rfl, h5, h6⟩
          have hle : ρ.le ρ' := fun j b hb => by
            have hj : j < h.next := by
              obtain ⟨_, _, _, _, r4, _⟩ := hR
              rcases Nat.lt_or_ge j h.next with hlt | hge
              · exact hlt
              · rw [r4 j hge] at hb; cases hb
            rw [h1 j hj]; exact hb
          exact ⟨v, h', u, ρ', rfl, h1, hle, h2, h3, h4, h5, h6⟩
        · obtain ⟨v, h', u, w', ρ', r1, r2, r3, r4, r5, r6, r7, r8⟩ := hspec ρ T w _ hR hargs
          refine wpOp_runs ho hw (.inl ?_) ⟨v, h', u, ρ', rfl, r2, r3, r4, r5, r6, r7, r8⟩
          simp only [execOp, resolve, hcx, hxe, Sem.run_bind, Deferred.ofValue, Sem.run_pure, Result.andThen_ok, invoke]
          exact r1
      · exact hq.elim
    · exact xx hq
/-- An operation, in a state some slots of which are not known. -/
theorem vAct_ok (hT : tt.ok P) {call : WFn} (hc : WOk P call) {Q : Exit → Act → World → Prop} {i : Nat} {fr : Fr} {h : Heap} {K : Fr → Heap → Prop} {ρ : Ren} {T : Nat → Prop} {w : World} {a : Act} {l : List Nat} (hR : Rel h ρ T w)
    (hf : FrRel ρ n (killF fr l) a) (hl : ∀ t ∈ slotsOf ops i, t ∉ l) (hq : vAct call tt n ops i fr h K) :
    wpOp P ops Q i (fun a' w' => ∃ fr' h' ρ', (∀ j, j < h.next → ρ' j = ρ j) ∧ h.next ≤ h'.next ∧ Rel h' ρ' T w' ∧ FrRel ρ' n (killF fr' (l.filter fun t => dstOf ops i != some t)) a' ∧ (∀ t, dstOf ops i ≠ some t → look fr' t = look fr t) ∧ Keeps T w w' ∧ K fr' h') a w := by
  unfold vAct at hq
  split at hq
  · rename_i o ho
    have hso : ∀ t ∈ oSlots ops o, t ∉ l := by simpa only [slotsOf, ho] using hl
    have hdo : dstOf ops i = o.dst := by simp only [dstOf, ho]
    cases hd : dstOk n o.dst with
    | false => rw [hd] at hq; exact hq.elim
    | true =>
      rw [hd] at hq; simp only [cond_true] at hq
      have fin : ∀ {fr1 : Fr} {v : AV} {u : Value} {ρ' : Ren}, Same fr fr1 → ρ.le ρ' → VRel ρ' v u → FrRel ρ' n (killF (putF fr1 o.dst v) (l.filter fun t => dstOf ops i != some t)) (a.put o.dst u) ∧ ∀ t, dstOf ops i ≠ some t → look (putF fr1 o.dst v) t = look fr t := by
        intro fr1 v u ρ' hsame hle hv
        refine ⟨?_, fun t ht => ?_⟩
        · have h1 := (hf.mono hle).put (d := o.dst) hd hv
          refine h1.same fun t => ?_
          rw [look_kill]
          by_cases hm : t ∈ l.filter fun t => dstOf ops i != some t
          · rw [if_pos hm]; exact .inr rfl
          · rw [if_neg hm]
            refine .inl ?_
            rw [hdo] at hm
            cases hod : o.dst with
            | none =>
              rw [hod] at hm
              simp only [putF]
              rw [look_kill, if_neg (by simpa using hm)]
              exact hsame t
            | some d =>
              rw [hod] at hm
              rw [look_putF, look_putF, look_kill]
              by_cases htd : t = d
              · simp [htd]
              · rw [if_neg htd, if_neg htd, if_neg (by intro hh; exact hm (List.mem_filter.2 ⟨hh, by simpa using fun h => htd h.symm⟩))]
                exact hsame t
        · rw [hdo] at ht
          cases hod : o.dst with
          | none => simp only [putF]; exact hsame t
          | some d => rw [look_putF, if_neg (fun h => ht (by rw [hod, h]))]; exact hsame t
      rcases vGuard_ok hq with ⟨fr1, hsame, hq, hw⟩ | ⟨fr1, hsame, hq, hw⟩
      · have hf1 : FrRel ρ n (killF fr1 l) a := hf.same fun t => by rw [look_kill, look_kill, hsame t]; exact .inl rfl
        rw [vDo_congr (evA_kill (fr := fr1) (l := l) fun t ht => hso t (by simp [oSlots, ht]))] at hq
        refine wpOp_mono ?_ (vDo_ok (P := P) (Q := Q) hT hc ho hR hf1 (hw ρ n a (.of_kill hf fun t ht => hso t (by simp [oSlots, ht]))) hq)
        rintro a' w' ⟨v, h', u, ρ', rfl, h1, h2, h3, h4, h5, h6, h7⟩
        obtain ⟨f1, f2⟩ := fin (v := v) hsame h2 h5
        exact ⟨_, h', ρ', h1, h3, h4, f1, f2, h6, h7⟩
      · obtain ⟨f1, f2⟩ := fin (v := .lit undef) (u := undef) hsame (Ren.le_refl _) (by simp only [VRel])
        unfold wpOp
        simp only [ho, hw ρ n a (.of_kill hf fun t ht => hso t (by simp [oSlots, ht]))]
        exact ⟨_, h, ρ, fun _ _ => rfl, Nat.le_refl _, hR, f1, f2, Keeps.refl _ _, hq⟩
  · exact hq.elim
end
end Go.Proofs.YtpbdlibgbkhlhaaGreat.SE
