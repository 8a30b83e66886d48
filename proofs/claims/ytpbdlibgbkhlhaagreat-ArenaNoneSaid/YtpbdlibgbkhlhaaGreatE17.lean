/- A run of code over a heap that is known: what it yields, and that the code does so. -/
import Derived.Test.YtpbdlibgbkhlhaaGreatE16
namespace Go.Proofs.YtpbdlibgbkhlhaaGreat.SE
open Go

/-- A call of a function whose value is known: the function, the values handed in, and where the answer goes. -/
def callOf (n : Nat) (ops : Array Oper) (i : Nat) (fr : Fr) : Option (FuncId × List AV × Option Tmp) :=
  match ops[i]? with
  | some o => match o.op with
    | .call c => match c.callee with
      | .value x => match evA fr x with
        | .fn (.func g) first cap => bif dstOk n o.dst then (match wantedA ops o fr with
          | some true => some (g, first ++ c.args.toList.map (evA fr) ++ cap, o.dst)
          | _ => none) else none
        | _ => none
      | _ => none
    | _ => none
  | none => none

abbrev RunFn := FuncId → List AV → Heap → Option (AV × Heap)
def runOps (call : RunFn) (tt : TT) (n : Nat) (ops : Array Oper) : List Stp → Fr → Heap → Option (Fr × Heap)
  | [], fr, h => some (fr, h)
  | .nn i :: r, fr, h => match stepN tt n ops i fr with
    | some fr' => runOps call tt n ops r fr' h
    | none => none
  | .rr l :: r, fr, h => match stillL tt n ops l fr h with
    | some fr' => runOps call tt n ops r fr' h
    | none => none
  | .xx i :: r, fr, h => match callOf n ops i fr with
    | some (g, args, d) => match call g args h with
      | some (v, h') => runOps call tt n ops r (putF fr d v) h'
      | none => none
    | none => match stepX false tt n ops i fr h with
      | some (fr', h') => runOps call tt n ops r fr' h'
      | none => none
def planFor (ops : Array Oper) (draw : Bool) : Option (List Stp) :=
  bif draw then (let pl := planOf ops
    bif Region.noSelect ops && planOk ops pl (Array.replicate ops.size false) && decide (planLen pl ≤ ops.size) then some pl else none)
  else some ((List.range ops.size).map Stp.xx)
def runC (call : RunFn) (tt : TT) (n : Nat) : Nat → Code → Fr → Heap → Option (Exit × Fr × Heap)
  | 0, _, _, _ => none
  | _ + 1, .skip, fr, h => some (.normal, fr, h)
  | _ + 1, .ret, fr, h => some (.ret, fr, h)
  | _ + 1, .exit id, fr, h => some (.exit id, fr, h)
  | f + 1, .seq x y, fr, h => match runC call tt n f x fr h with
    | some (.normal, fr', h') => runC call tt n f y fr' h'
    | r => r
  | f + 1, .cond c x y, fr, h => match evA fr c with
    | .lit (.bool b) => bif b then runC call tt n f x fr h else runC call tt n f y fr h
    | _ => none
  | f + 1, .block id x, fr, h => match runC call tt n f x fr h with
    | some (.exit id', fr', h') => bif Nat.beq id' id then some (.normal, fr', h') else some (.exit id', fr', h')
    | r => r
  | f + 1, .loop x, fr, h => match runC call tt n f x fr h with
    | some (.normal, fr', h') => runC call tt n f (.loop x) fr' h'
    | r => r
  | _ + 1, .region _ ops draw, fr, h => match planFor ops draw with
    | some pl => match runOps call tt n ops pl fr h with
      | some (fr', h') => some (.normal, fr', h')
      | none => none
    | none => none
  | _ + 1, _, _, _ => none
def isDone : Exit → Bool
  | .normal => true
  | .ret => true
  | _ => false
def runF (P : Program) (tt : TT) (fuel : Nat) : Nat → RunFn
  | 0, _, _, _ => none
  | d + 1, g, args, h => match P.funcs[g]? with
    | some fn => match fn.body with
      | some c => bif !(fn.name == "runtime.NumGoroutine") && Nat.ble args.length fn.ntmps then (match runC (runF P tt fuel d) tt fn.ntmps fuel c (entryF args) h with
        | some (e, fr, h') => bif isDone e then (match retA tt fn fr h' with
          | some v => some (v, h')
          | none => none) else none
        | none => none) else none
      | none => none
    | none => none

def CallOk (P : Program) (call : RunFn) : Prop := ∀ g args h v h', call g args h = some (v, h') → Sp P g args h (fun v' h'' => v' = v ∧ h'' = h')

section
variable {P : Program} {tt : TT} {k n : Nat} {call : RunFn}
theorem runOps_ok (hT : tt.ok P) (hc : CallOk P call) {ops : Array Oper} {Q : Fr → Heap → Prop} {fr' : Fr} {h' : Heap} (hq : Q fr' h') : ∀ (pl : List Stp) (fr : Fr) (h : Heap), runOps call tt n ops pl fr h = some (fr', h') → RPlan P k n ops pl Q fr h
  | [], fr, h, hr => by simp only [runOps, Option.some.injEq, Prod.mk.injEq] at hr; obtain ⟨rfl, rfl⟩ := hr; exact rplan_nil hq
  | .nn i :: r, fr, h, hr => by
    simp only [runOps] at hr
    split at hr
    · rename_i f2 h2; exact rplan_nn hT h2 (runOps_ok hT hc hq r f2 h hr)
    · cases hr
  | .rr l :: r, fr, h, hr => by
    simp only [runOps] at hr
    split at hr
    · rename_i f2 h2; exact rplan_rr hT h2 (runOps_ok hT hc hq r f2 h hr)
    · cases hr
  | .xx i :: r, fr, h, hr => by
    simp only [runOps] at hr
    split at hr
    · rename_i g args d hcall
      split at hr
      · rename_i v h2 hv
        unfold callOf at hcall
        split at hcall
        · rename_i o ho
          split at hcall
          · rename_i c hop
            split at hcall
            · rename_i x hcx
              split at hcall
              · rename_i g' first cap hx
                cases hd : dstOk n o.dst <;> rw [hd] at hcall
                · cases hcall
                · simp only [cond_true] at hcall
                  split at hcall
                  · rename_i hw
                    simp only [Option.some.injEq, Prod.mk.injEq] at hcall
                    obtain ⟨rfl, hargs, rfl⟩ := hcall
                    refine rplan_call ho hop hcx hw hd hx hargs (hc _ _ _ _ _ hv) ?_
                    rintro v' h'' ⟨rfl, rfl⟩
                    exact runOps_ok hT hc hq r _ _ hr
                  · cases hcall
              · cases hcall
            · cases hcall
          · cases hcall
        · cases hcall
      · cases hr
    · split at hr
      · rename_i f2 g2 h2; exact rplan_xx hT false h2 (runOps_ok hT hc hq r f2 g2 hr)
      · cases hr

theorem runC_ok (hT : tt.ok P) (hm : P.follows .mixedOrders = true) (hc : CallOk P call) : ∀ (N f : Nat), f ≤ N → ∀ (c : Code) (Q : Exit → Fr → Heap → Prop) (fr fr' : Fr) (h h' : Heap) (e : Exit), runC call tt n f c fr h = some (e, fr', h') → Q e fr' h' → AWp P k n c Q fr h := by
  intro N
  induction N with
  | zero => intro f hf c Q fr fr' h h' e hr hq; have : f = 0 := by omega
            subst this; simp [runC] at hr
  | succ N ih =>
    intro f hf c Q fr fr' h h' e hr hq
    cases f with
    | zero => simp [runC] at hr
    | succ f =>
      have hfN : f ≤ N := by omega
      cases c with
      | skip => simp only [runC, Option.some.injEq, Prod.mk.injEq] at hr; obtain ⟨rfl, rfl, rfl⟩ := hr; exact awp_skip hq
      | ret => simp only [runC, Option.some.injEq, Prod.mk.injEq] at hr; obtain ⟨rfl, rfl, rfl⟩ := hr; exact awp_ret hq
      | exit id => simp only [runC, Option.some.injEq, Prod.mk.injEq] at hr; obtain ⟨rfl, rfl, rfl⟩ := hr; exact awp_exit hq
      | seq x y =>
        simp only [runC] at hr
        cases hx : runC call tt n f x fr h with
        | none => simp only [hx] at hr; cases hr
        | some r =>
          obtain ⟨e1, fr1, h1⟩ := r
          rw [hx] at hr
          refine awp_seq (ih f hfN x _ fr fr1 h h1 e1 hx ?_)
          cases e1 with
          | normal => exact ih f hfN y Q fr1 fr' h1 h' e hr hq
          | _ => simp only [Option.some.injEq, Prod.mk.injEq] at hr; obtain ⟨rfl, rfl, rfl⟩ := hr; exact hq
      | cond c x y =>
        simp only [runC] at hr
        split at hr
        · rename_i b hb
          refine awp_cond hb (fun ht => ?_) (fun hf => ?_)
          · subst ht; exact ih f hfN x Q fr fr' h h' e hr hq
          · subst hf; exact ih f hfN y Q fr fr' h h' e hr hq
        · cases hr
      | block id x =>
        simp only [runC] at hr
        cases hx : runC call tt n f x fr h with
        | none => simp only [hx] at hr; cases hr
        | some r =>
          obtain ⟨e1, fr1, h1⟩ := r
          rw [hx] at hr
          refine awp_block (ih f hfN x _ fr fr1 h h1 e1 hx ?_)
          cases e1 with
          | exit id' =>
            simp only at hr
            cases hb : Nat.beq id' id <;> rw [hb] at hr
            · simp only [cond_false, Option.some.injEq, Prod.mk.injEq] at hr
              obtain ⟨rfl, rfl, rfl⟩ := hr
              have : id' ≠ id := fun he => by subst he; rw [Nat.beq_refl] at hb; cases hb
              simpa [blockA, this] using hq
            · simp only [cond_true, Option.some.injEq, Prod.mk.injEq] at hr
              obtain ⟨rfl, rfl, rfl⟩ := hr
              have : id' = id := Nat.eq_of_beq_eq_true hb
              simpa [blockA, this] using hq
          | _ => simp only [Option.some.injEq, Prod.mk.injEq] at hr; obtain ⟨rfl, rfl, rfl⟩ := hr; exact hq
      | loop x =>
        refine awp_loop (fun m fr h => m ≤ f + 1 ∧ runC call tt n m (.loop x) fr h = some (e, fr', h')) (m := f + 1) ⟨Nat.le_refl _, hr⟩ ?_
        rintro m fr2 h2 ⟨hm', hr2⟩
        cases m with
        | zero => simp [runC] at hr2
        | succ m =>
          simp only [runC] at hr2
          cases hx : runC call tt n m x fr2 h2 with
          | none => simp only [hx] at hr2; cases hr2
          | some r =>
            obtain ⟨e1, fr1, h1⟩ := r
            rw [hx] at hr2
            refine ih m (by omega) x _ fr2 fr1 h2 h1 e1 hx ?_
            cases e1 with
            | normal => exact ⟨m, by omega, by omega, hr2⟩
            | _ => simp only [Option.some.injEq, Prod.mk.injEq] at hr2; obtain ⟨rfl, rfl, rfl⟩ := hr2; exact hq
      | region id ops draw =>
        simp only [runC] at hr
        split at hr
        · rename_i pl hpl
          split at hr
          · rename_i f2 g2 h2
            simp only [Option.some.injEq, Prod.mk.injEq] at hr
            obtain ⟨rfl, rfl, rfl⟩ := hr
            cases draw with
            | false =>
              simp only [planFor, cond_false, Option.some.injEq] at hpl
              exact awp_region hpl (runOps_ok hT hc hq pl fr h h2)
            | true =>
              simp only [planFor, cond_true] at hpl
              cases hok : (Region.noSelect ops && planOk ops (planOf ops) (Array.replicate ops.size false) && decide (planLen (planOf ops) ≤ ops.size)) <;> rw [hok] at hpl
              · cases hpl
              · cases hpl
                exact awp_draw hm hok (runOps_ok hT hc hq _ fr h h2)
          · cases hr
        · cases hr
      | _ => simp [runC] at hr

theorem runF_ok (hT : tt.ok P) (hm : P.follows .mixedOrders = true) (fuel : Nat) : ∀ d, CallOk P (runF P tt fuel d)
  | 0 => by intro g args h v h' hr; simp [runF] at hr
  | d + 1 => by
    intro g args h v h' hr
    simp only [runF] at hr
    split at hr
    · rename_i fn hf
      split at hr
      · rename_i c hb
        cases hcnd : (!(fn.name == "runtime.NumGoroutine") && Nat.ble args.length fn.ntmps) <;> rw [hcnd] at hr
        · cases hr
        · simp only [cond_true] at hr
          simp only [Bool.and_eq_true, Bool.not_eq_true'] at hcnd
          split at hr
          · rename_i e fr2 h2 hrun
            cases hd : isDone e <;> rw [hd] at hr
            · cases hr
            · simp only [cond_true] at hr
              split at hr
              · rename_i v2 hv
                simp only [Option.some.injEq, Prod.mk.injEq] at hr
                obtain ⟨rfl, rfl⟩ := hr
                refine spec_of_awp hT hf hcnd.1 hb hcnd.2 (runC_ok hT hm (runF_ok hT hm fuel d) fuel fuel (Nat.le_refl _) c _ _ fr2 h h2 e hrun ⟨?_, _, hv, rfl, rfl⟩)
                cases e <;> first | exact .inl rfl | exact .inr rfl | cases hd
              · cases hr
          · cases hr
      · cases hr
    · cases hr

/-- A closed call, run: it answers so. -/
def ranTo (x : Option (AV × Heap)) (ok : AV → Heap → Bool) : Bool := match x with
  | some (v, h) => ok v h
  | none => false
theorem sp_run (hT : tt.ok P) (hm : P.follows .mixedOrders = true) (fuel d : Nat) {g : FuncId} {args : List AV} {h : Heap} {ok : AV → Heap → Bool} (hr : ranTo (runF P tt fuel d g args h) ok = true) : Sp P g args h (fun v h' => ok v h' = true) := by
  unfold ranTo at hr
  split at hr
  · rename_i v h' hv
    exact (runF_ok hT hm fuel d g args h v h' hv).mono (by rintro _ _ ⟨rfl, rfl⟩; exact hr)
  · cases hr
def saysTrue : AV → Heap → Bool
  | .lit (.bool true), _ => true
  | _, _ => false
theorem saysTrue_spec {v : AV} {h : Heap} (hh : saysTrue v h = true) : v = .lit (.bool true) := by
  unfold saysTrue at hh; split at hh
  · rfl
  · cases hh
end
end Go.Proofs.YtpbdlibgbkhlhaaGreat.SE
