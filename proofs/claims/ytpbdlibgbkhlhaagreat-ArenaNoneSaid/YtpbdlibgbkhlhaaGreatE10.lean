/- The judgements on plans of operations, on code and on functions, and their rules. -/
import Derived.Test.YtpbdlibgbkhlhaaGreatE9
namespace Go.Proofs.YtpbdlibgbkhlhaaGreat.SE
open Go

/-- From a heap, a frame: what stands for a state of the machine; k: how many numbers of objects stay. -/
structure St (k n : Nat) (ρ : Ren) (T : Nat → Prop) (fr : Fr) (h : Heap) (a : Act) (w : World) : Prop where
  le : k ≤ h.next
  rel : Rel h ρ T w
  fr : FrRel ρ n fr a

/-- A state that came of one in which ρ₀ and w₀ stood. -/
def After (k n : Nat) (ρ₀ : Ren) (T : Nat → Prop) (w₀ : World) (Q : Fr → Heap → Prop) (a : Act) (w : World) : Prop :=
  ∃ ρ fr h, (∀ i, i < k → ρ i = ρ₀ i) ∧ St k n ρ T fr h a w ∧ Keeps T w₀ w ∧ Q fr h

theorem After.trans {k n : Nat} {ρ₀ ρ₁ : Ren} {T : Nat → Prop} {w₀ w₁ : World} {Q : Fr → Heap → Prop} {a : Act} {w : World} (hρ : ∀ i, i < k → ρ₁ i = ρ₀ i) (hk : Keeps T w₀ w₁) (h : After k n ρ₁ T w₁ Q a w) : After k n ρ₀ T w₀ Q a w := by
  obtain ⟨ρ, fr, h', h1, h2, h3, h4⟩ := h
  exact ⟨ρ, fr, h', fun i hi => (h1 i hi).trans (hρ i hi), h2, hk.trans h3, h4⟩
theorem After.mono {k n : Nat} {ρ₀ : Ren} {T : Nat → Prop} {w₀ : World} {Q Q' : Fr → Heap → Prop} (hq : ∀ fr h, Q fr h → Q' fr h) {a : Act} {w : World} (h : After k n ρ₀ T w₀ Q a w) : After k n ρ₀ T w₀ Q' a w :=
  let ⟨ρ, fr, h', h1, h2, h3, h4⟩ := h; ⟨ρ, fr, h', h1, h2, h3, hq _ _ h4⟩

/-- The post of a region: it ends as it should, nothing else. -/
def rpost (k n : Nat) (ρ₀ : Ren) (T : Nat → Prop) (w₀ : World) (Q : Fr → Heap → Prop) : Exit → Act → World → Prop
  | .normal, a, w => After k n ρ₀ T w₀ Q a w
  | _, _, _ => False

def RPlan (P : Program) (k n : Nat) (ops : Array Oper) (pl : List Stp) (Q : Fr → Heap → Prop) (fr : Fr) (h : Heap) : Prop :=
  ∀ ρ T w a, St k n ρ T fr h a w → wpPlan P ops (rpost k n ρ T w Q) pl a w

/-! ### One step of a plan -/
/-- Is the operation wanted, as far as the frame tells? -/
def wantedA (ops : Array Oper) (o : Oper) (fr : Fr) : Option Bool :=
  match o.guard with
  | none => some true
  | some (j, want) => match ops[j]? with
    | some oj => match oj.dst with
      | some d => match look fr d with
        | .lit (.bool b) => some (b == want)
        | .lit (.tuple _) => some false
        | _ => none
      | none => none
    | none => none

theorem wantedA_ok {ops : Array Oper} {o : Oper} {fr : Fr} {ρ : Ren} {n : Nat} {a : Act} (hf : FrRel ρ n fr a) {b : Bool} (h : wantedA ops o fr = some b) : Region.wanted o (yielded ops a.tmps) = b := by
  unfold wantedA at h
  unfold Region.wanted
  split at h
  · rename_i hg; cases h; simp [hg]
  · rename_i j want hg
    simp only [hg]
    split at h
    · rename_i oj hoj
      split at h
      · rename_i d hd
        have hv := hf.vals d
        split at h
        · rename_i x hx
          cases h
          rw [hx] at hv; simp only [VRel] at hv
          have : a.tmps[d]? = some (.bool x) := by
            simp only [Array.getD_eq_getD_getElem?] at hv
            cases hh : a.tmps[d]? with
            | none => rw [hh] at hv; simp [undef] at hv
            | some y => rw [hh] at hv; simpa using hv
          simp [yielded, hoj, hd, this]
        · rename_i x hx
          cases h
          rw [hx] at hv; simp only [VRel] at hv
          cases hh : a.tmps[d]? with
          | none => simp [yielded, hoj, hd, hh]
          | some y =>
            simp only [Array.getD_eq_getD_getElem?, hh, Option.getD_some] at hv
            subst hv
            simp [yielded, hoj, hd, hh]
        · cases h
      · cases h
    · cases h

/-- One operation that looks at no memory: the frame behind it. -/
def stepN (tt : TT) (n : Nat) (ops : Array Oper) (i : Nat) (fr : Fr) : Option Fr :=
  match ops[i]? with
  | some o => bif dstOk n o.dst then (match wantedA ops o fr with
    | some true => match opN tt o.op (evA fr) with
      | some v => some (putF fr o.dst v)
      | none => none
    | some false => some (putF fr o.dst (.lit undef))
    | none => none) else none
  | none => none
/-- One operation that reads. -/
def stepR (tt : TT) (n : Nat) (ops : Array Oper) (i : Nat) (fr : Fr) (h : Heap) : Option Fr :=
  match ops[i]? with
  | some o => bif dstOk n o.dst then (match wantedA ops o fr with
    | some true => match opN tt o.op (evA fr) with
      | some v => some (putF fr o.dst v)
      | none => match opR tt o.op (evA fr) h with
        | some v => some (putF fr o.dst v)
        | none => none
    | some false => some (putF fr o.dst (.lit undef))
    | none => none) else none
  | none => none
/-- One operation. -/
def stepX (u : Bool) (tt : TT) (n : Nat) (ops : Array Oper) (i : Nat) (fr : Fr) (h : Heap) : Option (Fr × Heap) :=
  match stepR tt n ops i fr h with
  | some fr' => some (fr', h)
  | none => match ops[i]? with
    | some o => bif dstOk n o.dst then (match wantedA ops o fr with
      | some true => match opX u tt o.op (evA fr) h with
        | some (v, h') => some (putF fr o.dst v, h')
        | none => none
      | _ => none) else none
    | none => none

theorem stepN_ok {P : Program} {tt : TT} (hT : tt.ok P) {n : Nat} {ops : Array Oper} {i : Nat} {fr fr' : Fr} {ρ : Ren} {a : Act} (hf : FrRel ρ n fr a) (h : stepN tt n ops i fr = some fr') :
    ∃ o u, ops[i]? = some o ∧ Yields P ops o u a ∧ FrRel ρ n fr' (a.put o.dst u) := by
  unfold stepN at h
  split at h
  · rename_i o ho
    cases hd : dstOk n o.dst with
    | false => rw [hd] at h; simp at h
    | true =>
      rw [hd] at h; simp only [cond_true] at h
      split at h
      · rename_i hw
        split at h
        · rename_i v hv
          cases h
          obtain ⟨u, hu, hr⟩ := opN_ok (P := P) hT (o := o) (fun x => hf.ev x) hv
          exact ⟨o, u, ho, .inl ⟨wantedA_ok hf hw, hu⟩, hf.put hd hr⟩
        · cases h
      · rename_i hw
        cases h
        exact ⟨o, undef, ho, .inr ⟨wantedA_ok hf hw, rfl⟩, hf.put hd (by simp only [VRel])⟩
      · cases h
  · cases h

theorem stepR_ok {P : Program} {tt : TT} (hT : tt.ok P) {k n : Nat} {ops : Array Oper} {i : Nat} {fr fr' : Fr} {h : Heap} {ρ : Ren} {T : Nat → Prop} {a : Act} {w : World} (hs : St k n ρ T fr h a w) (hh : stepR tt n ops i fr h = some fr') :
    ∃ o u, ops[i]? = some o ∧ YieldsAt P ops w o u a ∧ FrRel ρ n fr' (a.put o.dst u) := by
  unfold stepR at hh
  split at hh
  · rename_i o ho
    cases hd : dstOk n o.dst with
    | false => rw [hd] at hh; simp at hh
    | true =>
      rw [hd] at hh; simp only [cond_true] at hh
      split at hh
      · rename_i hw
        split at hh
        · rename_i v hv
          cases hh
          obtain ⟨u, hu, hr⟩ := opN_ok (P := P) hT (o := o) (fun x => hs.fr.ev x) hv
          exact ⟨o, u, ho, .inl ⟨wantedA_ok hs.fr hw, .inl (hu w)⟩, hs.fr.put hd hr⟩
        · split at hh
          · rename_i v hv
            cases hh
            obtain ⟨u, hu, hr⟩ := opR_ok (P := P) hT hs.rel (o := o) (fun x => hs.fr.ev x) hv
            exact ⟨o, u, ho, .inl ⟨wantedA_ok hs.fr hw, .inl hu⟩, hs.fr.put hd hr⟩
          · cases hh
      · rename_i hw
        cases hh
        exact ⟨o, undef, ho, .inr ⟨wantedA_ok hs.fr hw, rfl⟩, hs.fr.put hd (by simp only [VRel])⟩
      · cases hh
  · cases hh

theorem wpOp_runs {P : Program} {ops : Array Oper} {Q : Exit → Act → World → Prop} {i : Nat} {o : Oper} {a : Act} {w w' : World} {u : Value} {K : Act → World → Prop} (ho : ops[i]? = some o)
    (hw : Region.wanted o (yielded ops a.tmps) = true) (hr : RunsTo P (execOp a.eval o) w u w') (hK : K (a.put o.dst u) w') : wpOp P ops Q i K a w := by
  unfold wpOp
  simp only [ho, hw, if_true, Oper.wp]
  refine .inl ?_
  rcases hr with hr | ⟨hr, rfl⟩
  · rw [hr]; exact hK
  · rw [hr]; exact hK

section
variable {P : Program} {tt : TT} {k n : Nat} {ops : Array Oper} {Q : Fr → Heap → Prop} {fr : Fr} {h : Heap}

theorem rplan_nil (hq : Q fr h) : RPlan P k n ops [] Q fr h :=
  fun ρ _ _ _ hs => ⟨ρ, fr, h, fun _ _ => rfl, hs, Keeps.refl _ _, hq⟩

theorem rplan_nn (hT : tt.ok P) {i : Nat} {rest : List Stp} {fr' : Fr} (hs : stepN tt n ops i fr = some fr') (hn : RPlan P k n ops rest Q fr' h) : RPlan P k n ops (.nn i :: rest) Q fr h := by
  intro ρ T w a hst
  obtain ⟨o, u, ho, hy, hf⟩ := stepN_ok (P := P) hT hst.fr hs
  exact ⟨o, u, ho, hy, hn ρ T w _ ⟨hst.le, hst.rel, hf⟩⟩

/-- Operations that read, one behind the other. -/
def stillL (tt : TT) (n : Nat) (ops : Array Oper) : List Nat → Fr → Heap → Option Fr
  | [], fr, _ => some fr
  | i :: l, fr, h => match stepR tt n ops i fr h with
    | some fr' => stillL tt n ops l fr' h
    | none => none
theorem stillL_ok (hT : tt.ok P) {ρ : Ren} {T : Nat → Prop} {w : World} {K : Act → Prop} : ∀ (l : List Nat) (fr fr' : Fr) (a : Act), St k n ρ T fr h a w → stillL tt n ops l fr h = some fr' → (∀ a', FrRel ρ n fr' a' → K a') → wpStillL P ops w K l a
  | [], fr, fr', a, hst, hs, hK => by simp only [stillL, Option.some.injEq] at hs; subst hs; exact hK a hst.fr
  | i :: l, fr, fr', a, hst, hs, hK => by
    simp only [stillL] at hs
    split at hs
    · rename_i f2 h2
      obtain ⟨o, u, ho, hy, hf⟩ := stepR_ok (P := P) hT hst h2
      exact ⟨o, u, ho, hy, stillL_ok hT l f2 fr' _ ⟨hst.le, hst.rel, hf⟩ hs hK⟩
    · cases hs
theorem rplan_rr (hT : tt.ok P) {l : List Nat} {rest : List Stp} {fr' : Fr} (hs : stillL tt n ops l fr h = some fr') (hn : RPlan P k n ops rest Q fr' h) : RPlan P k n ops (.rr l :: rest) Q fr h := by
  intro ρ T w a hst
  exact stillL_ok hT l fr fr' a hst hs fun a' hf => hn ρ T w a' ⟨hst.le, hst.rel, hf⟩

theorem rpost_mono {ρ₀ ρ₁ : Ren} {T : Nat → Prop} {w₀ w₁ : World} (hρ : ∀ i, i < k → ρ₁ i = ρ₀ i) (hk : Keeps T w₀ w₁) (e : Exit) (a : Act) (w : World) (hh : rpost k n ρ₁ T w₁ Q e a w) : rpost k n ρ₀ T w₀ Q e a w := by
  cases e <;> first | exact After.trans hρ hk hh | exact hh.elim

theorem Oper.wp_monoQ {o : Oper} {a : Act} {w : World} {K K' : Act → World → Prop} {Q Q' : Exit → Act → World → Prop} (h : ∀ a w, K a w → K' a w) (hq : ∀ e a w, Q e a w → Q' e a w)
    (hh : o.wp P a w K Q) : o.wp P a w K' Q' := by
  unfold Oper.wp at *
  generalize (execOp a.eval o).run P w = r at *
  cases r with
  | ok n w' =>
    cases n <;> simp only [Oper.upon] at hh ⊢ <;> first
      | exact h _ _ hh
      | exact Calls.mono hh (fun e w'' he => by cases e <;> first | exact h _ _ he | exact hq _ _ _ he | exact (let ⟨a, w, q⟩ := he; ⟨a, w, hq _ _ _ q⟩))
      | exact Rows.mono hh (fun _ _ he => h _ _ he)
  | halt x w' => cases x <;> simp only [Oper.upon] at hh ⊢ <;> first | exact hq _ _ _ hh | exact hh
theorem wpOp_monoQ {i : Nat} {a : Act} {w : World} {K K' : Act → World → Prop} {Q Q' : Exit → Act → World → Prop} (h : ∀ a w, K a w → K' a w) (hq : ∀ e a w, Q e a w → Q' e a w)
    (hh : wpOp P ops Q i K a w) : wpOp P ops Q' i K' a w := by
  unfold wpOp at *
  split
  · exact h _ _ (by simpa [*] using hh)
  · rename_i o ho
    simp only [ho] at hh
    split
    · rename_i hw; simp only [hw, if_true] at hh; exact hh.imp (Oper.wp_monoQ h hq) (fun ⟨h1, a, w, h2⟩ => ⟨h1, a, w, hq _ _ _ h2⟩)
    · rename_i hw; simp only [hw] at hh; exact h _ _ hh
theorem wpStillL_mono {w : World} {K K' : Act → Prop} (h : ∀ a, K a → K' a) : ∀ (l : List Nat) (a : Act), wpStillL P ops w K l a → wpStillL P ops w K' l a
  | [], a, hh => h a hh
  | _ :: l, _, ⟨o, v, ho, hy, hh⟩ => ⟨o, v, ho, hy, wpStillL_mono h l _ hh⟩
theorem wpPlan_mono {Q Q' : Exit → Act → World → Prop} (hq : ∀ e a w, Q e a w → Q' e a w) : ∀ (pl : List Stp) (a : Act) (w : World), wpPlan P ops Q pl a w → wpPlan P ops Q' pl a w
  | [], _, _, h => hq _ _ _ h
  | .nn _ :: rest, _, w, ⟨o, v, ho, hy, h⟩ => ⟨o, v, ho, hy, wpPlan_mono hq rest _ w h⟩
  | .rr l :: rest, a, w, h => wpStillL_mono (fun a' h' => wpPlan_mono hq rest a' w h') l a h
  | .xx _ :: rest, _, _, h => wpOp_monoQ (fun a' w' h' => wpPlan_mono hq rest a' w' h') hq h

/-- From a state that came of another one. -/
theorem RPlan.after {pl : List Stp} {Q' : Fr → Heap → Prop} {ρ₀ : Ren} {T : Nat → Prop} {w₀ : World} (hp : ∀ fr h, Q fr h → RPlan P k n ops pl Q' fr h) {a : Act} {w : World} (ha : After k n ρ₀ T w₀ Q a w) : wpPlan P ops (rpost k n ρ₀ T w₀ Q') pl a w := by
  obtain ⟨ρ, fr, h, h1, h2, h3, h4⟩ := ha
  exact wpPlan_mono (rpost_mono h1 h3) pl a w (hp fr h h4 ρ T w a h2)

theorem rplan_xx (hT : tt.ok P) (u : Bool) {i : Nat} {rest : List Stp} {fr' : Fr} {h' : Heap} (hs : stepX u tt n ops i fr h = some (fr', h')) (hn : RPlan P k n ops rest Q fr' h') : RPlan P k n ops (.xx i :: rest) Q fr h := by
  intro ρ T w a hst
  unfold stepX at hs
  split at hs
  · rename_i f2 h2
    cases hs
    obtain ⟨o, v, ho, hy, hf⟩ := stepR_ok (P := P) hT hst h2
    exact YieldsAt.wpOp' ho hy (hn ρ T w _ ⟨hst.le, hst.rel, hf⟩)
  · split at hs
    · rename_i o ho
      cases hd : dstOk n o.dst with
      | false => rw [hd] at hs; simp at hs
      | true =>
        rw [hd] at hs; simp only [cond_true] at hs
        split at hs
        · rename_i hw
          split at hs
          · rename_i v h2 hv
            cases hs
            obtain ⟨uu, w', ρ', hr, hρ, hle, hnx, hR, hvr, hk⟩ := opX_ok (P := P) hT hst.rel (o := o) (fun x => hst.fr.ev x) hv
            refine wpOp_runs ho (wantedA_ok hst.fr hw) hr ?_
            refine wpPlan_mono (rpost_mono (fun i hi => hρ i (Nat.lt_of_lt_of_le hi hst.le)) hk) rest _ _ (hn ρ' T w' _ ⟨Nat.le_trans hst.le hnx, hR, (hst.fr.mono hle).put hd hvr⟩)
          · cases hs
        · cases hs
    · cases hs
end

/-! ### Functions -/
def Callable (P : Program) (f : FuncId) : Prop := ∃ fn, P.funcs[f]? = some fn ∧ (fn.name == "runtime.NumGoroutine") = false ∧ fn.body.isSome = true

/-- The function f, called with these values over this heap, returns a value and a heap of which K holds; it touches nothing else. -/
def Sp (P : Program) (f : FuncId) (args : List AV) (h : Heap) (K : AV → Heap → Prop) : Prop :=
  Callable P f ∧ ∀ ρ T w vs, Rel h ρ T w → LRel ρ args vs.toList →
    Calls P f vs w (fun e w' => ∃ ρ' v u h', (∀ i, i < h.next → ρ' i = ρ i) ∧ h.next ≤ h'.next ∧ Rel h' ρ' T w' ∧ VRel ρ' v u ∧ e = .returned u ∧ Keeps T w w' ∧ K v h')

theorem Sp.mono {P : Program} {f : FuncId} {args : List AV} {h : Heap} {K K' : AV → Heap → Prop} (hs : Sp P f args h K) (hk : ∀ v h', K v h' → K' v h') : Sp P f args h K' :=
  ⟨hs.1, fun ρ T w vs h1 h2 => (hs.2 ρ T w vs h1 h2).mono fun _ _ ⟨ρ', v, u, h', a, b, c, d, e, f, g⟩ => ⟨ρ', v, u, h', a, b, c, d, e, f, hk _ _ g⟩⟩

theorem callable_run {P : Program} {f : FuncId} (h : Callable P f) (args : Array Value) (w : World) : (callFunc f args).run P w = .ok (.enter f args) w := by
  obtain ⟨fn, hf, hn, hb⟩ := h
  have hb' : fn.body.isNone = false := by cases hbb : fn.body with
    | none => rw [hbb] at hb; cases hb
    | some x => rfl
  simp only [callFunc, Sem.run_bind, run_program, Result.andThen_ok, hf, hn, hb', Bool.false_eq_true, if_false, Sem.run_pure]

section
variable {P : Program} {tt : TT} {k n : Nat} {ops : Array Oper} {Q : Fr → Heap → Prop} {fr : Fr} {h : Heap}
/-- A call of a function of the program. -/
theorem rplan_call {i : Nat} {rest : List Stp} {o : Oper} {c : Call} {x : Operand} {g : FuncId} {first cap : List AV} (ho : ops[i]? = some o) (hop : o.op = .call c) (hcx : c.callee = .value x)
    (hw : wantedA ops o fr = some true) (hd : dstOk n o.dst = true) (hx : evA fr x = .fn (.func g) first cap) {args : List AV} (hargs : first ++ c.args.toList.map (evA fr) ++ cap = args)
    {K : AV → Heap → Prop} (hspec : Sp P g args h K) (hn : ∀ v h', K v h' → RPlan P k n ops rest Q (putF fr o.dst v) h') : RPlan P k n ops (.xx i :: rest) Q fr h := by
  intro ρ T w a hst
  have hxv := hst.fr.ev x
  rw [hx] at hxv
  simp only [VRel] at hxv
  obtain ⟨fa, ca, hxe, hfa, hca⟩ := hxv
  have hrun : (execOp a.eval o).run P w = .ok (.enter g (fa ++ c.args.map a.eval ++ ca)) w := by
    obtain ⟨dst, op, ty, pos, after, guard⟩ := o
    simp only at hop
    subst hop
    simp only [execOp, resolve, hcx, hxe, Sem.run_bind, Deferred.ofValue, Sem.run_pure, Result.andThen_ok, invoke]
    exact callable_run hspec.1 _ _
  unfold wpPlan
  unfold wpOp
  simp only [ho, wantedA_ok hst.fr hw, if_true, Oper.wp, hrun, Oper.upon]
  refine .inl ((hspec.2 ρ T w _ hst.rel ?_).mono ?_)
  · rw [← hargs]
    simp only [Array.toList_append, Array.toList_map]
    exact (hfa.append (map_rel (fun y => hst.fr.ev y) _)).append hca
  · rintro e w' ⟨ρ', v, u, h', h1, h2, h3, h4, rfl, h5, h6⟩
    simp only
    have hle : ρ.le ρ' := fun j b hb => by
      have hj : j < h.next := by
        obtain ⟨_, _, _, _, r4, _⟩ := hst.rel
        rcases Nat.lt_or_ge j h.next with hlt | hge
        · exact hlt
        · rw [r4 j hge] at hb; cases hb
      rw [h1 j hj]; exact hb
    exact wpPlan_mono (rpost_mono (fun j hj => h1 j (Nat.lt_of_lt_of_le hj hst.le)) h5) rest _ _ (hn v h' h6 ρ' T w' _ ⟨Nat.le_trans hst.le h2, h3, (hst.fr.mono hle).put hd h4⟩)
end

/-! ### Code -/
/-- The ways out of a piece of code that may be. -/
def apost (k n : Nat) (ρ₀ : Ren) (T : Nat → Prop) (w₀ : World) (Q : Exit → Fr → Heap → Prop) (e : Exit) (a : Act) (w : World) : Prop :=
  match e with
  | .normal => After k n ρ₀ T w₀ (Q .normal) a w
  | .exit id => After k n ρ₀ T w₀ (Q (.exit id)) a w
  | .ret => After k n ρ₀ T w₀ (Q .ret) a w
  | _ => False

def AWp (P : Program) (k n : Nat) (c : Code) (Q : Exit → Fr → Heap → Prop) (fr : Fr) (h : Heap) : Prop :=
  ∀ ρ T w a, St k n ρ T fr h a w → c.wp P (apost k n ρ T w Q) a w

section
variable {P : Program} {k n : Nat} {Q : Exit → Fr → Heap → Prop} {fr : Fr} {h : Heap}

theorem apost_trans {ρ₀ ρ₁ : Ren} {T : Nat → Prop} {w₀ w₁ : World} (hρ : ∀ i, i < k → ρ₁ i = ρ₀ i) (hk : Keeps T w₀ w₁) (e : Exit) (a : Act) (w : World) (hh : apost k n ρ₁ T w₁ Q e a w) : apost k n ρ₀ T w₀ Q e a w := by
  cases e <;> first | exact After.trans hρ hk hh | exact hh.elim
theorem apost_mono {Q' : Exit → Fr → Heap → Prop} (hq : ∀ e fr h, Q e fr h → Q' e fr h) {ρ₀ : Ren} {T : Nat → Prop} {w₀ : World} (e : Exit) (a : Act) (w : World) (hh : apost k n ρ₀ T w₀ Q e a w) : apost k n ρ₀ T w₀ Q' e a w := by
  cases e <;> first | exact After.mono (hq _) hh | exact hh.elim
theorem AWp.mono {c : Code} {Q' : Exit → Fr → Heap → Prop} (hq : ∀ e fr h, Q e fr h → Q' e fr h) (hc : AWp P k n c Q fr h) : AWp P k n c Q' fr h :=
  fun ρ T w a hs => wp_mono (hc ρ T w a hs) (apost_mono hq)

theorem AWp.after {c : Code} {R : Fr → Heap → Prop} {ρ₀ : Ren} {T : Nat → Prop} {w₀ : World} (hp : ∀ fr h, R fr h → AWp P k n c Q fr h) {a : Act} {w : World} (ha : After k n ρ₀ T w₀ R a w) : c.wp P (apost k n ρ₀ T w₀ Q) a w := by
  obtain ⟨ρ, fr, h, h1, h2, h3, h4⟩ := ha
  exact wp_mono (hp fr h h4 ρ T w a h2) (apost_trans h1 h3)

def thenA (K : Fr → Heap → Prop) (Q : Exit → Fr → Heap → Prop) : Exit → Fr → Heap → Prop
  | .normal, fr, h => K fr h
  | e, fr, h => Q e fr h
def blockA (id : Nat) (Q : Exit → Fr → Heap → Prop) : Exit → Fr → Heap → Prop
  | .exit id', fr, h => if id' = id then Q .normal fr h else Q (.exit id') fr h
  | e, fr, h => Q e fr h

theorem awp_skip (hq : Q .normal fr h) : AWp P k n .skip Q fr h :=
  fun ρ _ _ _ hs => wp_skip ⟨ρ, fr, h, fun _ _ => rfl, hs, Keeps.refl _ _, hq⟩
theorem awp_ret (hq : Q .ret fr h) : AWp P k n .ret Q fr h :=
  fun ρ _ _ _ hs => wp_ret ⟨ρ, fr, h, fun _ _ => rfl, hs, Keeps.refl _ _, hq⟩
theorem awp_exit {id : Nat} (hq : Q (.exit id) fr h) : AWp P k n (.exit id) Q fr h :=
  fun ρ _ _ _ hs => wp_exit ⟨ρ, fr, h, fun _ _ => rfl, hs, Keeps.refl _ _, hq⟩
theorem awp_seq {x y : Code} (hx : AWp P k n x (thenA (fun fr h => AWp P k n y Q fr h) Q) fr h) : AWp P k n (.seq x y) Q fr h := by
  intro ρ T w a hs
  refine wp_seq (wp_mono (hx ρ T w a hs) fun e a' w' hh => ?_)
  cases e <;> first | exact AWp.after (fun _ _ h => h) hh | exact hh
theorem awp_cond {c : Operand} {x y : Code} {b : Bool} (hc : evA fr c = .lit (.bool b)) (ht : b = true → AWp P k n x Q fr h) (hf : b = false → AWp P k n y Q fr h) : AWp P k n (.cond c x y) Q fr h := by
  intro ρ T w a hs
  have hv := hs.fr.ev c
  rw [hc] at hv; simp only [VRel] at hv
  exact wp_cond_split hv (fun hb => ht hb ρ T w a hs) (fun hb => hf hb ρ T w a hs)
theorem awp_block {id : Nat} {c : Code} (hc : AWp P k n c (blockA id Q) fr h) : AWp P k n (.block id c) Q fr h := by
  intro ρ T w a hs
  refine wp_block (wp_mono (hc ρ T w a hs) fun e a' w' hh => ?_)
  cases e with
  | exit id' =>
    simp only [apost, Exit.inBlock] at hh ⊢
    by_cases hid : id' = id
    · simp only [hid, if_true]
      exact hh.mono fun fr h hq => by simpa [blockA, hid] using hq
    · simp only [hid, if_false]
      exact hh.mono fun fr h hq => by simpa [blockA, hid] using hq
  | _ => exact hh
theorem awp_loop {c : Code} (I : Nat → Fr → Heap → Prop) {m : Nat} (h0 : I m fr h) (round : ∀ m fr h, I m fr h → AWp P k n c (thenA (fun fr h => ∃ m', m' < m ∧ I m' fr h) Q) fr h) : AWp P k n (.loop c) Q fr h := by
  intro ρ₀ T w₀ a hs
  let I' : Act → World → Nat → Prop := fun a w m => After k n ρ₀ T w₀ (I m) a w
  have key : ∀ m a w, I' a w m → ∀ (b : Frame) (kk : List Item) (cs : List Frame), ∃ e a' w', apost k n ρ₀ T w₀ Q e a' w' ∧ Arrives P (lone (b.at a (.code c :: .inLoop c :: kk)) cs w) b kk cs e a' w' := by
    intro m
    induction m using Nat.strongRecOn with
    | _ m ih =>
      intro a w hI b kk cs
      obtain ⟨e, a₁, w₁, hq, harr⟩ := AWp.after (fun fr h hi => round m fr h hi) hI b (.inLoop c :: kk) cs
      cases e with
      | normal =>
        obtain ⟨ρ, fr, h, q1, q2, q3, m', hm', q4⟩ := hq
        obtain ⟨e₂, a₂, w₂, hq₂, harr₂⟩ := ih m' hm' a₁ w₁ ⟨ρ, fr, h, q1, q2, q3, q4⟩ b kk cs
        exact ⟨e₂, a₂, w₂, hq₂, .of_steps (Steps.trans harr (.one step_inLoop)) harr₂⟩
      | exit id => exact ⟨.exit id, a₁, w₁, hq, .pass (x := .inLoop c) rfl (fun _ _ => .inl (by simp)) harr⟩
      | ret => exact ⟨.ret, a₁, w₁, hq, .pass (x := .inLoop c) rfl (fun _ _ => .inl (by simp)) harr⟩
      | goto l => exact hq.elim
      | panic ch => exact hq.elim
      | outgrown => exact hq.elim
  intro b kk cs
  obtain ⟨e, a', w', hq, harr⟩ := key m a w₀ ⟨ρ₀, fr, h, fun _ _ => rfl, hs, Keeps.refl _ _, h0⟩ b kk cs
  exact ⟨e, a', w', hq, .of_steps (.one step_loop) harr⟩

theorem wpOps_xx {P : Program} {ops : Array Oper} {Q : Exit → Act → World → Prop} : ∀ (l : List Nat) (a : Act) (w : World), wpPlan P ops Q (l.map .xx) a w → wpOps P ops Q l a w
  | [], a, w, h => h
  | i :: l, a, w, h => by
    rw [wpOps_cons]
    exact wpOp_mono (fun a' w' h' => wpOps_xx l a' w' h') h

/-- A region in its text's order. -/
theorem awp_region {id : Nat} {ops : Array Oper} {pl : List Stp} (hpl : (List.range ops.size).map Stp.xx = pl) (hp : RPlan P k n ops pl (Q .normal) fr h) : AWp P k n (.region id ops false) Q fr h := by
  intro ρ T w a hs
  refine wp_region (wpOps_xx _ a w ?_)
  rw [hpl]
  exact wpPlan_mono (fun e a w h => by cases e <;> first | exact h | exact h.elim) pl a w (hp ρ T w a hs)
/-- A region that draws its order, by a plan. -/
theorem awp_draw {id : Nat} {ops : Array Oper} {pl : List Stp} (hm : P.follows .mixedOrders = true)
    (hok : (Region.noSelect ops && planOk ops pl (Array.replicate ops.size false) && decide (planLen pl ≤ ops.size)) = true) (hp : RPlan P k n ops pl (Q .normal) fr h) : AWp P k n (.region id ops true) Q fr h := by
  intro ρ T w a hs
  have hs' : St k n ρ T fr h a w.drew := ⟨hs.le, hs.rel.drew, hs.fr⟩
  have := wp_region_plan (Q := rpost k n ρ T w.drew (Q .normal)) (id := id) hm (fun _ _ _ h => h.elim) hok (hp ρ T w.drew a hs')
  refine wp_mono this fun e a' w' hh => ?_
  cases e <;> first | exact After.trans (fun _ _ => rfl) (Keeps.drew T w) hh | exact hh.elim
end
end Go.Proofs.YtpbdlibgbkhlhaaGreat.SE
