/- Closed calls, run: with regions in which a variable may be made early. -/
import Derived.Test.YtpbdlibgbkhlhaaGreatW2
namespace Go.Proofs.YtpbdlibgbkhlhaaGreat.SE
open Go

/-! ### What is looked for in a region -/
def noEdges (o : Oper) : Bool := o.after.toList.all fun e => !Region.binds .any e
def qAt (ops : Array Oper) (i : Nat) : Option (Nat × TypeId) := match ops[i]? with
  | some o => match o.op, o.guard, o.dst with
    | .alloc e, none, some d => bif noEdges o && (List.range ops.size).all (fun j => Nat.beq j i || (match dstOf ops j with | some d' => !Nat.beq d' d | none => true)) then some (d, e) else none
    | _, _, _ => none
  | none => none
def findQ (ops : Array Oper) : List Nat → Option (Nat × Nat × TypeId)
  | [] => none
  | i :: l => match qAt ops i with
    | some (d, e) => some (i, d, e)
    | none => findQ ops l
def zeroC (ti : TI) : Cs := bif Nat.blt 40 ti.zero.length then .tr ti.zero.length (toAV ti.zero) .leaf else .av (toAV ti.zero)
def planE (ops : Array Oper) (q : Nat) : Nat → List Nat → Array Bool → Pl
  | 0, _, _ => .nil
  | f + 1, pend, A => match (Region.ready .any ops A).find? (fun i => stOk ops i && !Nat.beq i q) with
    | some i => .st i (planE ops q f (i :: pend) (A.setIfInBounds i true))
    | none => match (Region.ready .any ops A).filter (fun i => !Nat.beq i q) with
      | [] => bif (Region.ready .any ops A).contains q then planOne ops (planE ops q f) pend A q else .nil
      | i :: _ => planOne ops (planE ops q f) pend A i
def none0 (ops : Array Oper) : Array Bool := Array.replicate ops.size false
/-- The variable, and a plan. -/
def floatOf (ops : Array Oper) : Option (Nat × Nat × TypeId × Pl) := match findQ ops (List.range ops.size) with
  | some (q, d, e) => let pl := planE ops q (ops.size + 1) [] (none0 ops)
    bif okB ops q true pl [] (none0 ops) && edgesDown ops then some (q, d, e, pl) else none
  | none => none
/-- A plan, where no variable is made early. -/
def plainOf (ops : Array Oper) : Option Pl := let pl := planE ops ops.size (ops.size + 1) [] (none0 ops)
  bif okB ops ops.size false pl [] (none0 ops) && edgesDown ops then some pl else none
def roCur (m : HM) : List Nat := (roNums m).filter fun i => match HM.get m i with
  | some (.ro c) => Nat.blt 0 c.size
  | _ => false

/-! ### The run of such a region -/
mutual
def sameAV : AV → AV → Bool
  | .lit (.int k x), .lit (.int k' y) => decide (k = k') && decide (x = y)
  | .lit (.bool x), .lit (.bool y) => decide (x = y)
  | .lit (.string x), .lit (.string y) => decide (x = y)
  | .lit (.pointer none), .lit (.pointer none) => true
  | .lit (.slice none a b), .lit (.slice none a' b') => Nat.beq a a' && Nat.beq b b'
  | .ptr i o, .ptr j p => Nat.beq i j && Nat.beq o p
  | .sl i o a b, .sl j p a' b' => Nat.beq i j && Nat.beq o p && Nat.beq a a' && Nat.beq b b'
  | .slU i o a b, .slU j p a' b' => Nat.beq i j && Nat.beq o p && Nat.beq a a' && Nat.beq b b'
  | .mp i, .mp j => Nat.beq i j
  | .agg l, .agg m => sameAVs l m
  | .tup l, .tup m => sameAVs l m
  | _, _ => false
def sameAVs : List AV → List AV → Bool
  | [], [] => true
  | a :: l, b :: m => sameAV a b && sameAVs l m
  | _, _ => false
end
mutual
theorem sameAV_eq : ∀ {a b : AV}, sameAV a b = true → a = b := by
  intro a b h
  unfold sameAV at h
  split at h <;> first
    | (simp only [Bool.and_eq_true, decide_eq_true_eq] at h; obtain ⟨rfl, rfl⟩ := h; rfl)
    | (simp only [decide_eq_true_eq] at h; subst h; rfl)
    | rfl
    | (simp only [Bool.and_eq_true] at h; obtain ⟨⟨⟨h1, h2⟩, h3⟩, h4⟩ := h; rw [Nat.eq_of_beq_eq_true h1, Nat.eq_of_beq_eq_true h2, Nat.eq_of_beq_eq_true h3, Nat.eq_of_beq_eq_true h4])
    | (simp only [Bool.and_eq_true] at h; obtain ⟨h1, h2⟩ := h; rw [Nat.eq_of_beq_eq_true h1, Nat.eq_of_beq_eq_true h2])
    | (rw [Nat.eq_of_beq_eq_true h])
    | (rw [sameAVs_eq h])
    | cases h
theorem sameAVs_eq : ∀ {l m : List AV}, sameAVs l m = true → l = m
  | [], [], _ => rfl
  | a :: l, b :: m, h => by
    simp only [sameAVs, Bool.and_eq_true] at h
    rw [sameAV_eq h.1, sameAVs_eq h.2]
  | [], _ :: _, h => by simp [sameAVs] at h
  | _ :: _, [], h => by simp [sameAVs] at h
end
def dstFree (ops : Array Oper) (i : Nat) : Bool := match dstOf ops i with
  | some d => !(slotsOf ops i).contains d
  | none => true
/-- An operation that only looks: what it yields, in a frame of its slots alone. -/
def lookG (tt : TT) (n : Nat) (ops : Array Oper) (i : Nat) (fr : Fr) (h : Heap) : Option Fr := bif dstFree ops i then (match stepN tt n ops i (keepF fr (slotsOf ops i)) with
  | some fr1 => some fr1
  | none => bif isLoad (opAt ops i) then stepR tt n ops i (keepF fr (slotsOf ops i)) h else none) else none
def againG (tt : TT) (n : Nat) (ops : Array Oper) (fr : Fr) (h : Heap) : List Nat → Bool
  | [] => true
  | x :: l => (match lookG tt n ops x fr h with
    | some fr1 => match dstOf ops x with
      | some d => sameAV (look fr1 d) (look fr d)
      | none => true
    | none => false) && againG tt n ops fr h l
section
variable {α : Type}
def plG (call : RunG α) (tt : TT) (g n : Nat) (ops : Array Oper) (q d : Nat) (e : TypeId) (c : Cs) (kk : List Nat) (Q : Fr → Heap → Rs α) : Bool → Pl → Fr → Heap → Rs α
  | _, .nil, fr, h => Q fr h
  | b, .st i p, fr, h => match lookG tt n ops i fr h with
    | some fr1 => plG call tt g n ops q d e c kk Q b p (putF fr (dstOf ops i) (dstV fr1 (dstOf ops i))) h
    | none => .no [g, i, 21]
  | b, .ac i _ rc p, fr, h => bif b && Nat.beq i q then (bif roLow kk h.m && againG tt n ops (putF fr (some d) (.ptr h.next 0)) (h.push (.cells e c)) rc then plG call tt g n ops q d e c kk Q false p (putF fr (some d) (.ptr h.next 0)) (h.push (.cells e c)) else .no [g, i, 22])
    else (match callOf n ops i (keepF fr (slotsOf ops i)) with
      | some (g', args, _) => call g' args h fun v h' => bif againG tt n ops (putF fr (dstOf ops i) v) h' rc then plG call tt g n ops q d e c kk Q b p (putF fr (dstOf ops i) v) h' else .no [g, i, 23]
      | none => match stepX false tt n ops i (keepF fr (slotsOf ops i)) h with
        | some (fr1, h') => bif againG tt n ops (putF fr (dstOf ops i) (dstV fr1 (dstOf ops i))) h' rc then plG call tt g n ops q d e c kk Q b p (putF fr (dstOf ops i) (dstV fr1 (dstOf ops i))) h' else .no [g, i, 24]
        | none => match stepG tt n ops i (keepF fr (slotsOf ops i)) h with
          | some (fr1, h') => bif againG tt n ops (putF fr (dstOf ops i) (dstV fr1 (dstOf ops i))) h' rc then plG call tt g n ops q d e c kk Q b p (putF fr (dstOf ops i) (dstV fr1 (dstOf ops i))) h' else .no [g, i, 26]
          | none => .no [g, i, 25])
  | _, .alt _ _, _, _ => .no [g, 26]

variable {P : Program} {tt : TT} {n : Nat} {ops : Array Oper}
theorem slots_o {i : Nat} {o : Oper} (ho : ops[i]? = some o) : slotsOf ops i = oSlots ops o := by simp only [slotsOf, ho]
theorem dst_o {i : Nat} {o : Oper} (ho : ops[i]? = some o) : dstOf ops i = o.dst := by simp only [dstOf, ho]
theorem dstFree_ok {i : Nat} (h : dstFree ops i = true) {d : Nat} (hd : dstOf ops i = some d) : d ∉ slotsOf ops i := by
  unfold dstFree at h
  rw [hd] at h
  simpa using h
theorem stepN_dst {i : Nat} {fr fr1 : Fr} (h : stepN tt n ops i fr = some fr1) : ∃ o, ops[i]? = some o ∧ dstOk n o.dst = true := by
  unfold stepN at h
  split at h
  · rename_i o ho
    cases hd : dstOk n o.dst with
    | false => rw [hd] at h; simp at h
    | true => exact ⟨o, ho, hd⟩
  · cases h
theorem stepR_dst {i : Nat} {fr fr1 : Fr} {h : Heap} (hs : stepR tt n ops i fr h = some fr1) : ∃ o, ops[i]? = some o ∧ dstOk n o.dst = true := by
  unfold stepR at hs
  split at hs
  · rename_i o ho
    cases hd : dstOk n o.dst with
    | false => rw [hd] at hs; simp at hs
    | true => exact ⟨o, ho, hd⟩
  · cases hs
theorem put_self {a : Act} {d : Nat} {u : Value} (hd : d < a.tmps.size) : (a.put (some d) u).tmps.getD d undef = u := by simp [Act.put, hd]
/-- What is looked up in a frame of an operation's slots alone is so in each frame that tells as much. -/
theorem lookG_still (hT : tt.ok P) {i : Nat} {fr fr1 fr' : Fr} {h : Heap} (hl : lookG tt n ops i fr h = some fr1) (hsl : ∀ t ∈ slotsOf ops i, look fr' t = look fr t) (hd : ∀ d, dstOf ops i = some d → look fr' d = look fr1 d) : StillAt P n ops i fr' h := by
  unfold lookG at hl
  cases hf : dstFree ops i <;> rw [hf] at hl
  · cases hl
  · simp only [cond_true] at hl
    split at hl
    · rename_i f2 h2
      cases hl
      obtain ⟨o, ho, hdk⟩ := stepN_dst h2
      refine ⟨o, ho, hdk, fun ρ T w a _ hs => ?_⟩
      have hs2 : SlotRel ρ n fr a (slotsOf ops i) := hs.sub (fun t ht => by rw [← slots_o ho]; exact ht) fun t ht => (hsl t ht).symm
      obtain ⟨o', u, ho', hy, hfr⟩ := stepN_ok (P := P) hT hs2.keep h2
      obtain rfl : o' = o := Option.some.inj (ho'.symm.trans ho)
      refine ⟨u, hy.imp (fun h => ⟨h.1, .inl (h.2 w)⟩) id, fun d hod => ?_⟩
      rw [hd d (by rw [dst_o ho, hod])]
      have := hfr.vals d
      rw [hod, put_self (by rw [hs.size]; rw [hod] at hdk; exact nblt_iff.1 hdk)] at this
      exact this
    · cases hb : isLoad (opAt ops i) <;> rw [hb] at hl
      · cases hl
      · simp only [cond_true] at hl
        obtain ⟨o, ho, hdk⟩ := stepR_dst hl
        refine ⟨o, ho, hdk, fun ρ T w a hR hs => ?_⟩
        have hs2 : SlotRel ρ n fr a (slotsOf ops i) := hs.sub (fun t ht => by rw [← slots_o ho]; exact ht) fun t ht => (hsl t ht).symm
        have hlo : isLoad o.op = true := by simp only [opAt, ho] at hb; exact hb
        obtain ⟨o', u, ho', hy, hfr⟩ := stepR_ok (P := P) hT (k := 0) (T := T) ⟨Nat.zero_le _, hR hlo, hs2.keep⟩ hl
        obtain rfl : o' = o := Option.some.inj (ho'.symm.trans ho)
        refine ⟨u, hy, fun d hod => ?_⟩
        rw [hd d (by rw [dst_o ho, hod])]
        have := hfr.vals d
        rw [hod, put_self (by rw [hs.size]; rw [hod] at hdk; exact nblt_iff.1 hdk)] at this
        exact this
theorem again_still (hT : tt.ok P) {fr : Fr} {h : Heap} : ∀ {l : List Nat}, againG tt n ops fr h l = true → ∀ x ∈ l, StillAt P n ops x fr h
  | y :: l, ha, x, hx => by
    simp only [againG, Bool.and_eq_true] at ha
    rcases List.mem_cons.1 hx with rfl | hx
    · have h1 := ha.1
      split at h1
      · rename_i fr1 hl
        refine lookG_still hT hl (fun t _ => rfl) fun d hd => ?_
        rw [hd] at h1
        exact (sameAV_eq h1).symm
      · cases h1
    · exact again_still hT ha.2 x hx
theorem look_putO {fr : Fr} {dd : Option Nat} {v : AV} {t : Nat} (h : dd ≠ some t) : look (putF fr dd v) t = look fr t := by
  cases dd with
  | none => rfl
  | some d => rw [look_putF, if_neg (fun hh => h (by rw [hh]))]
theorem plG_ok (hT : tt.ok P) {call : RunG α} (hc : CallOkG P call) {g q d : Nat} {e : TypeId} {c : Cs} {kk : List Nat} {Q : Fr → Heap → Rs α} {r : α} : ∀ (pl : Pl) (b : Bool) (fr : Fr) (h : Heap), plG call tt g n ops q d e c kk Q b pl fr h = .ok r →
    plP P n ops q d e c kk (fun fr h => Q fr h = .ok r) b pl fr h
  | .nil, b, fr, h, hr => by simp only [plG] at hr; simp only [plP]; exact hr
  | .alt x y, b, fr, h, hr => by simp [plG] at hr
  | .st i p, b, fr, h, hr => by
    simp only [plG] at hr
    split at hr
    · rename_i fr1 hl
      have hfree : dstFree ops i = true := by
        unfold lookG at hl
        cases hf : dstFree ops i with
        | false => rw [hf] at hl; cases hl
        | true => rfl
      simp only [plP]
      refine ⟨_, ⟨fun t ht => look_putO ht, lookG_still hT hl (fun t ht => ?_) fun d hd => ?_⟩, plG_ok hT hc p b _ h hr⟩
      · refine look_putO fun hh => dstFree_ok hfree hh ht
      · rw [hd, look_putF, if_pos rfl]
        first | rfl | done
    · cases hr
  | .ac i np rc p, b, fr, h, hr => by
    simp only [plG] at hr
    simp only [plP]
    cases hb : (b && Nat.beq i q) <;> rw [hb] at hr
    · simp only [cond_false] at hr ⊢
      split at hr
      · rename_i g' args d' hcall
        unfold callOf at hcall
        split at hcall
        · rename_i o ho
          split at hcall
          · rename_i cl hop
            split at hcall
            · rename_i x hcx
              split at hcall
              · rename_i g2 first cap hx
                cases hd : dstOk n o.dst <;> rw [hd] at hcall
                · cases hcall
                · simp only [cond_true] at hcall
                  split at hcall
                  · rename_i hw
                    simp only [Option.some.injEq, Prod.mk.injEq] at hcall
                    obtain ⟨rfl, hargs, rfl⟩ := hcall
                    refine ⟨o, ho, hd, rplan_callE ho hop hcx hw hd hx hargs (hc _ _ _ _ _ hr) fun v h' hv => rplan_nil ?_⟩
                    have e1 : putF fr o.dst (dstV (putF (keepF fr (slotsOf ops i)) o.dst v) o.dst) = putF fr (dstOf ops i) v := by
                      rw [dst_o ho]
                      cases o.dst with
                      | none => rfl
                      | some dd => simp only [dstV]; rw [look_putF, if_pos rfl]
                    rw [e1]
                    cases hag : againG tt n ops (putF fr (dstOf ops i) v) h' rc <;> simp only [hag] at hv
                    · cases hv
                    · exact ⟨again_still hT hag, plG_ok hT hc p b _ h' hv⟩
                  · cases hcall
              · cases hcall
            · cases hcall
          · cases hcall
        · cases hcall
      · split at hr
        · rename_i fr1 h' hs
          have hdk : ∃ o, ops[i]? = some o ∧ dstOk n o.dst = true := by
            unfold stepX at hs
            split at hs
            · rename_i f2 h2; exact stepR_dst h2
            · split at hs
              · rename_i o ho
                cases hd : dstOk n o.dst with
                | false => rw [hd] at hs; simp at hs
                | true => exact ⟨o, ho, hd⟩
              · cases hs
          obtain ⟨o, ho, hd⟩ := hdk
          refine ⟨o, ho, hd, rplan_xx hT false hs (rplan_nil ?_)⟩
          rw [← dst_o ho]
          cases hag : againG tt n ops (putF fr (dstOf ops i) (dstV fr1 (dstOf ops i))) h' rc <;> rw [hag] at hr
          · cases hr
          · exact ⟨again_still hT hag, plG_ok hT hc p b _ h' hr⟩
        · split at hr
          · rename_i fr1 h' hs
            have hdk : ∃ o, ops[i]? = some o ∧ dstOk n o.dst = true := by
              unfold stepG at hs
              split at hs
              · rename_i o ho
                cases hd : dstOk n o.dst with
                | false => rw [hd] at hs; simp at hs
                | true => exact ⟨o, ho, hd⟩
              · cases hs
            obtain ⟨o, ho, hd⟩ := hdk
            refine ⟨o, ho, hd, rplan_gg hT hs (rplan_nil ?_)⟩
            rw [← dst_o ho]
            cases hag : againG tt n ops (putF fr (dstOf ops i) (dstV fr1 (dstOf ops i))) h' rc <;> rw [hag] at hr
            · cases hr
            · exact ⟨again_still hT hag, plG_ok hT hc p b _ h' hr⟩
          · cases hr
    · simp only [cond_true] at hr ⊢
      cases hag : (roLow kk h.m && againG tt n ops (putF fr (some d) (.ptr h.next 0)) (h.push (.cells e c)) rc) <;> rw [hag] at hr
      · cases hr
      · simp only [Bool.and_eq_true] at hag
        exact ⟨hag.1, again_still hT hag.2, plG_ok hT hc p false _ _ hr⟩

theorem findQ_some : ∀ {l : List Nat} {q d : Nat} {e : TypeId}, findQ ops l = some (q, d, e) → qAt ops q = some (d, e)
  | i :: l, q, d, e, h => by
    simp only [findQ] at h
    split at h
    · rename_i d' e' hq
      cases h; exact hq
    · exact findQ_some h
theorem qAt_ok (hT : tt.ok P) {q d : Nat} {e : TypeId} {ti : TI} (h : qAt ops q = some (d, e)) (hd : Nat.blt d n = true) (hti : tt e = some ti) : AH P n ops q d e ti.zero.toArray (zeroC ti) := by
  unfold qAt at h
  split at h
  · rename_i o ho
    split at h
    · rename_i e' d' h1 h2 h3
      cases hc : (noEdges o && (List.range ops.size).all (fun j => Nat.beq j q || (match dstOf ops j with | some d'' => !Nat.beq d'' d' | none => true))) <;> rw [hc] at h
      · cases h
      · simp only [cond_true, Option.some.injEq, Prod.mk.injEq] at h
        obtain ⟨rfl, rfl⟩ := h
        simp only [Bool.and_eq_true, List.all_eq_true, List.mem_range, Bool.or_eq_true] at hc
        refine ⟨⟨o, ho, h1, h2, h3⟩, nblt_iff.1 hd, fun j => ?_, fun i hi hh => ?_, fun w => ?_, ?_, fun ρ => ?_⟩
        · cases hx : hasEdge ops q j with
          | false => rfl
          | true =>
            simp only [hasEdge, ho, List.any_eq_true, Bool.and_eq_true] at hx
            obtain ⟨ed, he, hb, _⟩ := hx
            have h4 := hc.1
            simp only [noEdges, List.all_eq_true, Bool.not_eq_true'] at h4
            have := h4 ed he
            rw [hb] at this; cases this
        · have hlt : i < ops.size := by
            rcases Nat.lt_or_ge i ops.size with h' | h'
            · exact h'
            · simp [dstOf, Array.getElem?_eq_none h'] at hh
          rcases hc.2 i hlt with h5 | h5
          · exact hi (Nat.eq_of_beq_eq_true h5)
          · rw [hh] at h5; simp at h5
        · obtain ⟨z, hz, hzc⟩ := run_zeroValue (P := P) hT hti w
          have : z.cells = ti.zero.toArray := by rw [← hzc]
          simp [Instr.alloc, hz, newVar, newRow, this]
        · unfold zeroC
          cases Nat.blt 40 ti.zero.length <;> simp [Cs.size, toAV]
        · have hlr : LRel ρ (toAV ti.zero) ti.zero := LRel.lits _
          unfold zeroC
          cases Nat.blt 40 ti.zero.length with
          | false => simpa using CRel.av hlr
          | true =>
            have := CRel.tr_leaf hlr
            have hl : (toAV ti.zero).length = ti.zero.length := by simp [toAV]
            rw [hl] at this; simpa using this
    · cases h
  · cases h
theorem roCur_get {m : HM} {i : Nat} (h : i ∈ roCur m) : ∃ c, HM.get m i = some (.ro c) ∧ 0 < c.size := by
  have := (List.mem_filter.1 h).2
  split at this
  · rename_i c hc
    exact ⟨c, hc, nblt_iff.1 this⟩
  · cases this
/-- Such a region, run by its plan. -/
theorem awp_float (hm : P.follows .mixedOrders = true) {q d : Nat} {e : TypeId} {z : Array Value} {c : Cs} (hA : AH P n ops q d e z c) {k : Nat} {id : Nat} {pl : Pl} (hok : okB ops q true pl [] (none0 ops) = true) (hdn : edgesDown ops = true) {fr : Fr} {h : Heap} {Q : Exit → Fr → Heap → Prop}
    (hv : plP P n ops q d e c (roCur h.m) (Q .normal) true pl (putF fr (some d) .any) h) : AWp P k n (.region id ops true) Q fr h := by
  intro ρ T w a hs
  have hz : ∀ i, (none0 ops).getD i false = false := fun i => by
    unfold none0
    by_cases h : i < ops.size <;> simp [h]
  have hR := hs.rel.drew
  have hkk : ∀ i ∈ roCur h.m, i < h.next ∧ ∀ a, ρ i = some a → a.blk < w.drew.heap.size := fun i hi => by
    obtain ⟨c1, hc, hpos⟩ := roCur_get hi
    obtain ⟨S, h1, h2, h3, h4, h5⟩ := hR
    obtain ⟨a1, ha, ho⟩ := h1 i _ hc
    refine ⟨?_, fun a2 ha2 => ?_⟩
    · rcases Nat.lt_or_ge i h.next with h' | h'
      · exact h'
      · rw [h4 i h'] at ha; cases ha
    · obtain rfl : a2 = a1 := Option.some.inj (ha2.symm.trans ha)
      rcases ho with h0 | ⟨_, arr, e1, f1, hb, _⟩
      · omega
      · exact (Array.getElem?_eq_some_iff.1 hb).1
  have hf : FrRel ρ n (putF fr (some d) .any) a := hs.fr.same fun t => by
    rw [look_putF]
    by_cases ht : t = d
    · rw [if_pos ht]; exact .inr rfl
    · rw [if_neg ht]; exact .inl rfl
  have J : JE P n ops q d e c (roCur h.m) (putF fr (some d) .any) h.next (Q .normal) ρ T w.drew true pl [] [] (none0 ops) (putF fr (some d) .any) h ρ (none0 ops) a w.drew :=
    ⟨hok, by simp [none0], by simp [none0], (fun i hi => by cases hi), (fun i hi => by cases hi), (fun i hi => by cases hi), (fun i => by rw [hz]; simp), (fun i j hi _ => by rw [hz] at hi; cases hi), (fun i j hi _ => by rw [hz] at hi; cases hi), (fun _ _ => rfl), Keeps.refl _ _, Nat.le_refl _, hR, hf, (fun p hp => by cases hp), hv, (fun _ _ => rfl), (fun _ => by rw [look_putF, if_pos rfl]), (fun _ => hz q)⟩
  have := wp_region_any (id := id) (Q := rpost h.next n ρ T w.drew (endQ ops (putF fr (some d) .any) (Q .normal))) hm ((wpAny_E hA hdn hkk ops.size).1 J (Nat.le_trans List.countP_le_length (by simp)))
  refine wp_mono this fun e a' w' hh => ?_
  cases e <;> first
    | (obtain ⟨ρ', fr', h', b1, b2, b3, b4⟩ := hh; exact ⟨ρ', fr', h', fun i hi => b1 i (Nat.lt_of_lt_of_le hi hs.le), ⟨Nat.le_trans hs.le b2.le, b2.rel, b2.fr⟩, (Keeps.drew T w).trans b3, b4.2⟩)
    | exact hh.elim

theorem awp_plain (hm : P.follows .mixedOrders = true) {q d : Nat} {e : TypeId} {c : Cs} {kk : List Nat} {k : Nat} {id : Nat} {pl : Pl} (hok : okB ops q false pl [] (none0 ops) = true) (hdn : edgesDown ops = true) {fr : Fr} {h : Heap} {Q : Exit → Fr → Heap → Prop}
    (hv : plP P n ops q d e c kk (Q .normal) false pl fr h) : AWp P k n (.region id ops true) Q fr h := by
  intro ρ T w a hs
  have hz : ∀ i, (none0 ops).getD i false = false := fun i => by
    unfold none0
    by_cases h : i < ops.size <;> simp [h]
  have J : JE P n ops q d e c kk fr h.next (Q .normal) ρ T w.drew false pl [] [] (none0 ops) fr h ρ (none0 ops) a w.drew :=
    ⟨hok, by simp [none0], by simp [none0], (fun i hi => by cases hi), (fun i hi => by cases hi), (fun i hi => by cases hi), (fun i => by rw [hz]; simp), (fun i j hi _ => by rw [hz] at hi; cases hi), (fun i j hi _ => by rw [hz] at hi; cases hi), (fun _ _ => rfl), Keeps.refl _ _, Nat.le_refl _, hs.rel.drew, hs.fr, (fun p hp => by cases hp), hv, (fun _ _ => rfl), (fun hb => by cases hb), (fun hb => by cases hb)⟩
  have := wp_region_any (id := id) (Q := rpost h.next n ρ T w.drew (endQ ops fr (Q .normal))) hm (wpAny_N hdn ops.size J (Nat.le_trans List.countP_le_length (by simp)))
  refine wp_mono this fun e a' w' hh => ?_
  cases e <;> first
    | (obtain ⟨ρ', fr', h', b1, b2, b3, b4⟩ := hh; exact ⟨ρ', fr', h', fun i hi => b1 i (Nat.lt_of_lt_of_le hi hs.le), ⟨Nat.le_trans hs.le b2.le, b2.rel, b2.fr⟩, (Keeps.drew T w).trans b3, b4.2⟩)
    | exact hh.elim
theorem plainOf_some {pl : Pl} (h : plainOf ops = some pl) : okB ops ops.size false pl [] (none0 ops) = true ∧ edgesDown ops = true := by
  unfold plainOf at h
  simp only at h
  cases hb : (okB ops ops.size false (planE ops ops.size (ops.size + 1) [] (none0 ops)) [] (none0 ops) && edgesDown ops) <;> rw [hb] at h
  · cases h
  · simp only [cond_true, Option.some.injEq] at h
    subst h
    simpa only [Bool.and_eq_true] using hb
/-! ### Code, and functions -/
section
variable {α : Type}
def codeH (call : RunG α) (tt : TT) (g n : Nat) : Nat → Code → (Exit → Fr → Heap → Rs α) → Fr → Heap → Rs α
  | 0, _, _, _, _ => .no [g, 5]
  | _ + 1, .skip, Q, fr, h => Q .normal fr h
  | _ + 1, .ret, Q, fr, h => Q .ret fr h
  | _ + 1, .exit id, Q, fr, h => Q (.exit id) fr h
  | _ + 1, .label _, Q, fr, h => Q .normal fr h
  | f + 1, .scope x, Q, fr, h => codeH call tt g n f x Q fr h
  | f + 1, .seq x y, Q, fr, h => codeH call tt g n f x (fun e fr' h' => match e with
    | .normal => codeH call tt g n f y Q fr' h'
    | e => Q e fr' h') fr h
  | f + 1, .cond c x y, Q, fr, h => match evA fr c with
    | .lit (.bool b) => bif b then codeH call tt g n f x Q fr h else codeH call tt g n f y Q fr h
    | _ => .no [g, 6]
  | f + 1, .block id x, Q, fr, h => codeH call tt g n f x (fun e fr' h' => match e with
    | .exit id' => bif Nat.beq id' id then Q .normal fr' h' else Q (.exit id') fr' h'
    | e => Q e fr' h') fr h
  | f + 1, .loop x, Q, fr, h => codeH call tt g n f x (fun e fr' h' => match e with
    | .normal => codeH call tt g n f (.loop x) Q fr' h'
    | e => Q e fr' h') fr h
  | _ + 1, .region id ops draw, Q, fr, h => match planFor ops draw with
    | some pl => opsG call tt (1000 * g + id) n ops (Q .normal) pl fr h
    | none => bif draw then (match plainOf ops with
     | some pl => plG call tt (1000 * g + id) n ops ops.size 0 0 (.av []) [] (Q .normal) false pl fr h
     | none => match floatOf ops with
      | some (q, d, e, pl) => match tt e with
        | some ti => bif Nat.blt d n then plG call tt (1000 * g + id) n ops q d e (zeroC ti) (roCur h.m) (Q .normal) true pl (putF fr (some d) .any) h else .no [g, id, 31]
        | none => .no [g, id, 32]
      | none => .no [g, id, 7]) else .no [g, id, 33]
  | _ + 1, _, _, _, _ => .no [g, 8]
def runH (P : Program) (xt : XTbl) (tt : TT) (fuel : Nat) : Nat → RunG α
  | 0, g, _, _, _ => .no [g, 9]
  | d + 1, g, args, h, K => match lookX xt g with
    | some T => match T args h with
      | some (v, h') => K v h'
      | none => .no [g, 10]
    | none => match P.funcs[g]? with
      | some fn => match fn.body with
        | some c => bif !(fn.name == "runtime.NumGoroutine") && Nat.ble args.length fn.ntmps then codeH (runH P xt tt fuel d) tt g fn.ntmps fuel c (fun e fr' h' => bif isDone e then (match retA tt fn fr' h' with
            | some v => K v h'
            | none => .no [g, 11]) else .no [g, 12]) (entryF args) h else .no [g, 13]
        | none => .no [g, 14]
      | none => .no [g, 15]
theorem floatOf_some {q d : Nat} {e : TypeId} {pl : Pl} (h : floatOf ops = some (q, d, e, pl)) : qAt ops q = some (d, e) ∧ okB ops q true pl [] (none0 ops) = true ∧ edgesDown ops = true := by
  unfold floatOf at h
  split at h
  · rename_i q' d' e' hq
    simp only at h
    cases hb : (okB ops q' true (planE ops q' (ops.size + 1) [] (none0 ops)) [] (none0 ops) && edgesDown ops) <;> rw [hb] at h
    · cases h
    · simp only [cond_true, Option.some.injEq, Prod.mk.injEq] at h
      obtain ⟨rfl, rfl, rfl, rfl⟩ := h
      simp only [Bool.and_eq_true] at hb
      exact ⟨findQ_some hq, hb.1, hb.2⟩
  · cases h
theorem codeH_ok (hT : tt.ok P) (hm : P.follows .mixedOrders = true) {k : Nat} {call : RunG α} (hc : CallOkG P call) {g : Nat} {r : α} : ∀ (N f : Nat), f ≤ N → ∀ (c : Code) (Q : Exit → Fr → Heap → Rs α) (fr : Fr) (h : Heap), codeH call tt g n f c Q fr h = .ok r → AWp P k n c (fun e fr h => Q e fr h = .ok r) fr h := by
  intro N
  induction N with
  | zero => intro f hf c Q fr h hr; have : f = 0 := by omega
            subst this; simp [codeH] at hr
  | succ N ih =>
    intro f hf c Q fr h hr
    cases f with
    | zero => simp [codeH] at hr
    | succ f =>
      have hfN : f ≤ N := by omega
      cases c with
      | skip => exact awp_skip hr
      | ret => exact awp_ret hr
      | exit id => exact awp_exit hr
      | label l => exact awp_label hr
      | scope x => exact awp_scope (ih f hfN x Q fr h hr)
      | seq x y =>
        simp only [codeH] at hr
        refine awp_seq ((ih f hfN x _ fr h hr).mono fun e fr1 h1 hh => ?_)
        cases e with
        | normal => exact ih f hfN y Q fr1 h1 hh
        | _ => exact hh
      | cond c x y =>
        simp only [codeH] at hr
        split at hr
        · rename_i b hb
          refine awp_cond hb (fun ht => ?_) (fun hf => ?_)
          · subst ht; exact ih f hfN x Q fr h hr
          · subst hf; exact ih f hfN y Q fr h hr
        · cases hr
      | block id x =>
        simp only [codeH] at hr
        refine awp_block ((ih f hfN x _ fr h hr).mono fun e fr1 h1 hh => ?_)
        cases e with
        | exit id' =>
          simp only [blockA]
          cases hb : Nat.beq id' id <;> simp only [hb, cond_true, cond_false] at hh
          · have : id' ≠ id := fun he => by subst he; rw [Nat.beq_refl] at hb; cases hb
            rw [if_neg this]; exact hh
          · rw [if_pos (Nat.eq_of_beq_eq_true hb)]; exact hh
        | _ => exact hh
      | loop x =>
        refine awp_loop (fun m fr h => m ≤ f + 1 ∧ codeH call tt g n m (.loop x) Q fr h = .ok r) (m := f + 1) ⟨Nat.le_refl _, hr⟩ ?_
        rintro m fr2 h2 ⟨hm', hr2⟩
        cases m with
        | zero => simp [codeH] at hr2
        | succ m =>
          simp only [codeH] at hr2
          refine (ih m (by omega) x _ fr2 h2 hr2).mono fun e fr3 h3 hh => ?_
          cases e with
          | normal => exact ⟨m, by omega, by omega, hh⟩
          | _ => exact hh
      | region id ops draw =>
        simp only [codeH] at hr
        split at hr
        · rename_i pl hpl
          cases draw with
          | false =>
            simp only [planFor, cond_false, Option.some.injEq] at hpl
            exact awp_region hpl (opsG_ok hT hc pl fr h hr)
          | true =>
            simp only [planFor, cond_true] at hpl
            cases hok : (Region.noSelect ops && planOk ops (planOf ops) (Array.replicate ops.size false) && decide (planLen (planOf ops) ≤ ops.size)) <;> rw [hok] at hpl
            · cases hpl
            · cases hpl
              exact awp_draw hm hok (opsG_ok hT hc _ fr h hr)
        · cases draw with
          | false => cases hr
          | true =>
            simp only [cond_true] at hr
            split at hr
            · rename_i pl hpl
              obtain ⟨h2, h3⟩ := plainOf_some hpl
              exact awp_plain hm h2 h3 (plG_ok (P := P) hT hc pl false _ h hr)
            · split at hr
              · rename_i q d e pl hfl
                obtain ⟨h1, h2, h3⟩ := floatOf_some hfl
                split at hr
                · rename_i ti hti
                  cases hd : Nat.blt d n <;> rw [hd] at hr
                  · cases hr
                  · exact awp_float hm (qAt_ok (P := P) (n := n) hT h1 hd hti) h2 h3 (plG_ok (P := P) hT hc pl true _ h hr)
                · cases hr
              · cases hr
      | _ => simp [codeH] at hr
theorem runH_sp (hT : tt.ok P) (hm : P.follows .mixedOrders = true) {xt : XTbl} {fuel d : Nat} (ih : CallOkG P (runH (α := α) P xt tt fuel d)) {g : FuncId} {args : List AV} {h : Heap} {K : AV → Heap → Rs α} {a : α} (hl : lookX xt g = none) (hr : runH P xt tt fuel (d + 1) g args h K = .ok a) :
    Sp P g args h (fun v h' => K v h' = .ok a) := by
  simp only [runH, hl] at hr
  split at hr
  · rename_i fn hf
    split at hr
    · rename_i c hb
      cases hcnd : (!(fn.name == "runtime.NumGoroutine") && Nat.ble args.length fn.ntmps) <;> rw [hcnd] at hr
      · cases hr
      · simp only [cond_true] at hr
        simp only [Bool.and_eq_true, Bool.not_eq_true'] at hcnd
        refine spec_of_awp hT hf hcnd.1 hb hcnd.2 ((codeH_ok hT hm ih fuel fuel (Nat.le_refl _) c _ _ h hr).mono fun e fr2 h2 hh => ?_)
        cases hd : isDone e <;> rw [hd] at hh
        · cases hh
        · simp only [cond_true] at hh
          split at hh
          · rename_i v2 hv
            refine ⟨?_, _, hv, hh⟩
            cases e <;> first | exact .inl rfl | exact .inr rfl | cases hd
          · cases hh
    · cases hr
  · cases hr
theorem runH_ok (hT : tt.ok P) (hm : P.follows .mixedOrders = true) {xt : XTbl} (hx : XOk' P xt) (fuel : Nat) : ∀ d, CallOkG P (runH (α := α) P xt tt fuel d)
  | 0 => by intro g args h K a hr; simp [runH] at hr
  | d + 1 => by
    intro g args h K a hr
    cases hl : lookX xt g with
    | none => exact .inl (runH_sp hT hm (runH_ok hT hm hx fuel d) hl hr)
    | some T =>
      simp only [runH, hl] at hr
      split at hr
      · rename_i v h' hv
        rcases hx g T hl args h v h' hv with hs | hs
        · exact .inl (hs.mono (by rintro _ _ ⟨rfl, rfl⟩; exact hr))
        · refine .inr fun ρ T w vs hR hl => ?_
          obtain ⟨v1, h1, u, w', ρ', r1, r2, r3, r4, r5, r6, r7, rfl, rfl⟩ := hs ρ T w vs hR hl
          exact ⟨_, _, u, w', ρ', r1, r2, r3, r4, r5, r6, r7, hr⟩
      · cases hr
theorem runH_top (hT : tt.ok P) (hm : P.follows .mixedOrders = true) {xt : XTbl} (hx : XOk' P xt) (fuel : Nat) : ∀ (d : Nat) (g : FuncId) (args : List AV) (h : Heap) (K : AV → Heap → Rs α) (a : α), lookX xt g = none → runH P xt tt fuel d g args h K = .ok a → Sp P g args h (fun v h' => K v h' = .ok a)
  | 0, g, args, h, K, a, _, hr => by simp [runH] at hr
  | d + 1, g, args, h, K, a, hl, hr => runH_sp hT hm (runH_ok hT hm hx fuel d) hl hr
end
end
end Go.Proofs.YtpbdlibgbkhlhaaGreat.SE
