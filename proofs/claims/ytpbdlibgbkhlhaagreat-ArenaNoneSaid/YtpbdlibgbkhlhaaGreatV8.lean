/- A region that draws its order, by a plan. -/
import Derived.Test.YtpbdlibgbkhlhaaGreatV7
namespace Go.Proofs.YtpbdlibgbkhlhaaGreat.SE
open Go

/-- A plan: 'st': looks, may come at any time from now on; 'ac': acts; np: what may be still to come behind it, rc: which of them read memory; 'alt': either. -/
inductive Pl where
  | nil
  | st (i : Nat) (p : Pl)
  | ac (i : Nat) (np rc : List Nat) (p : Pl)
  | alt (p q : Pl)
def opAt (ops : Array Oper) (i : Nat) : Op := match ops[i]? with
  | some o => o.op
  | none => .alloc 0
/-- What it writes nobody else writes, and only those read who must come behind it. -/
def stOk (ops : Array Oper) (i : Nat) : Bool := (isN (opAt ops i) || isLoad (opAt ops i)) && (match dstOf ops i with
  | none => true
  | some d => !(slotsOf ops i).contains d && (List.range ops.size).all fun j => Nat.beq j i || ((match dstOf ops j with | some e => !Nat.beq e d | none => true) && (!(slotsOf ops j).contains d || (anc ops j).contains i)))
def acOk (ops : Array Oper) (i : Nat) (pend np rc : List Nat) : Bool :=
  pend.all (fun p => (anc ops i).contains p || np.contains p) && (slotsOf ops i).all (fun t => !(DS ops np).contains t) &&
  (match dstOf ops i with | some d => np.all fun p => !(slotsOf ops p).contains d && (match dstOf ops p with | some e => !Nat.beq e d | none => true) | none => true) && np.all (fun p => !isLoad (opAt ops p) || rc.contains p)
def heads : Pl → List Nat
  | .ac i _ _ _ => [i]
  | .alt p q => heads p ++ heads q
  | _ => []
mutual
def okPl (ops : Array Oper) : Pl → List Nat → Array Bool → Bool
  | .nil, _, A => (Region.ready .any ops A).isEmpty
  | .st i p, pend, A => (Region.ready .any ops A).contains i && stOk ops i && okPl ops p (i :: pend) (A.setIfInBounds i true)
  | .ac i np rc p, pend, A => (Region.ready .any ops A == [i]) && acOk ops i pend np rc && okPl ops p np (A.setIfInBounds i true)
  | .alt p q, pend, A => (Region.ready .any ops A == heads p ++ heads q) && okH ops p pend A && okH ops q pend A
def okH (ops : Array Oper) : Pl → List Nat → Array Bool → Bool
  | .ac i np rc p, pend, A => acOk ops i pend np rc && okPl ops p np (A.setIfInBounds i true)
  | .alt p q, pend, A => okH ops p pend A && okH ops q pend A
  | _, _, _ => false
end
/-- Edges lead to what stands ahead. -/
def edgesDown (ops : Array Oper) : Bool := (List.range ops.size).all fun i => match ops[i]? with
  | some o => o.after.toList.all fun e => !Region.binds .any e || Nat.blt e.on i
  | none => true
def planOne (ops : Array Oper) (rec : List Nat → Array Bool → Pl) (pend : List Nat) (A : Array Bool) (i : Nat) : Pl :=
  let np := pend.filter fun p => !(anc ops i).contains p
  .ac i np (np.filter fun p => isLoad (opAt ops p)) (rec np (A.setIfInBounds i true))
def planAlts (mk : Nat → Pl) (i : Nat) : List Nat → Pl
  | [] => mk i
  | j :: l => .alt (mk i) (planAlts mk j l)
def planT (ops : Array Oper) : Nat → List Nat → Array Bool → Pl
  | 0, _, _ => .nil
  | f + 1, pend, A => match (Region.ready .any ops A).find? (stOk ops) with
    | some i => .st i (planT ops f (i :: pend) (A.setIfInBounds i true))
    | none => match Region.ready .any ops A with
      | [] => .nil
      | i :: l => planAlts (planOne ops (planT ops f) pend A) i l

/-- What was read is read so still. -/
def vAgain (tt : TT) (n : Nat) (ops : Array Oper) (fr : Fr) (h : Heap) : List Nat → Prop
  | [] => True
  | p :: l => (match ops[p]? with
    | some o => bif dstOk n o.dst then vGuard ops o fr (fun fr1 => vLook tt o.op (evA fr1) h fun v => match o.dst with | some d => v = look fr d | none => True) (fun _ => match o.dst with | some d => look fr d = .lit undef | none => True) else False
    | none => False) ∧ vAgain tt n ops fr h l
def vPl (call : WFn) (tt : TT) (n : Nat) (ops : Array Oper) : Pl → Fr → Heap → (Fr → Heap → Prop) → Prop
  | .nil, fr, h, Q => Q fr h
  | .st i p, fr, h, Q => vStill tt n ops i fr h fun fr' => vPl call tt n ops p fr' h Q
  | .ac i _ rc p, fr, h, Q => vAct call tt n ops i fr h fun fr' h' => vAgain tt n ops fr' h' rc ∧ vPl call tt n ops p fr' h' Q
  | .alt p q, fr, h, Q => vPl call tt n ops p fr h Q ∧ vPl call tt n ops q fr h Q

section
variable {P : Program} {tt : TT} {n : Nat} {ops : Array Oper}
theorem StillAt.congr {i : Nat} {fr fr' : Fr} {h : Heap} (hs : StillAt P n ops i fr h) (hsl : ∀ t ∈ slotsOf ops i, look fr' t = look fr t) (hd : ∀ d, dstOf ops i = some d → look fr' d = look fr d) : StillAt P n ops i fr' h := by
  obtain ⟨o, ho, hdo, hq⟩ := hs
  have e1 : slotsOf ops i = oSlots ops o := by simp only [slotsOf, ho]
  have e2 : dstOf ops i = o.dst := by simp only [dstOf, ho]
  refine ⟨o, ho, hdo, fun ρ T w a hR hf => ?_⟩
  obtain ⟨u, h1, h2⟩ := hq ρ T w a hR (hf.sub (fun t ht => ht) fun t ht => (hsl t (by rw [e1]; exact ht)).symm)
  exact ⟨u, h1, fun d hod => by rw [hd d (by rw [e2, hod])]; exact h2 d hod⟩

theorem edge_dep {q j : Nat} {o : Oper} (ho : ops[q]? = some o) {e : Edge} (he : e ∈ o.after) (hb : Region.binds .any e = true) (hj : e.on = j) : hasEdge ops q j = true := by
  simp only [hasEdge, ho, List.any_eq_true, Bool.and_eq_true]
  exact ⟨e, by simpa using he, hb, by rw [hj]; exact Nat.beq_refl _⟩
theorem ready_of {s : Array Bool} {q : Nat} {o : Oper} (hsz : s.size = ops.size) (ho : ops[q]? = some o) (hq : s.getD q false = false) (hd : ∀ j, hasEdge ops q j = true → s.getD j false = true) : q ∈ Region.ready .any ops s := by
  have hlt : q < s.size := by rw [hsz]; exact (Array.getElem?_eq_some_iff.1 ho).1
  refine mem_ready.2 ⟨?_, o, ho, fun e he hb => hd _ (edge_dep ho he hb rfl)⟩
  simp [hlt] at hq ⊢; exact hq
theorem ready_lt {s : Array Bool} {q : Nat} (h : q ∈ Region.ready .any ops s) : q < ops.size ∧ (s.size = ops.size → s.getD q false = false) := by
  obtain ⟨h1, o, ho, _⟩ := mem_ready.1 h
  have hlt := (Array.getElem?_eq_some_iff.1 ho).1
  refine ⟨hlt, fun hsz => ?_⟩
  have : q < s.size := by omega
  simp [this] at h1 ⊢; exact h1
theorem getD_set_eq {s : Array Bool} {i : Nat} (hi : i < s.size) (j : Nat) : (s.setIfInBounds i true).getD j false = (Nat.beq j i || s.getD j false) := by
  by_cases h : j = i
  · subst h; simp [hi]
  · rw [getD_set_ne false (Ne.symm h), nbeq_ne h]; simp
theorem mem_DS {l : List Nat} {d : Nat} : d ∈ DS ops l ↔ ∃ p ∈ l, dstOf ops p = some d := by simp [DS]

variable {fr0 : Fr} {k : Nat} {Q : Fr → Heap → Prop} {ρ₀ : Ren} {T : Nat → Prop} {w₀ : World} {call : WFn}
structure JS (P : Program) (tt : TT) (call : WFn) (n : Nat) (ops : Array Oper) (fr0 : Fr) (k : Nat) (Q : Fr → Heap → Prop) (ρ₀ : Ren) (T : Nat → Prop) (w₀ : World) (pl : Pl) (pend Pd : List Nat) (A : Array Bool) (fr : Fr) (h : Heap) (ρ : Ren) (s : Array Bool) (a : Act) (w : World) : Prop where
  ok : okPl ops pl pend A = true
  asz : A.size = ops.size
  ssz : s.size = ops.size
  sub : ∀ i ∈ Pd, i ∈ pend
  pdA : ∀ i ∈ Pd, A.getD i false = true
  st : ∀ i ∈ Pd, stOk ops i = true
  eq : ∀ i, s.getD i false = (A.getD i false && !Pd.contains i)
  cs : Closed ops s
  cA : Closed ops A
  ren : ∀ i, i < k → ρ i = ρ₀ i
  keeps : Keeps T w₀ w
  kle : k ≤ h.next
  rel : Rel h ρ T w
  frm : FrRel ρ n (killF fr (DS ops Pd)) a
  still : ∀ p ∈ Pd, StillAt P n ops p fr h
  v : vPl call tt n ops pl fr h Q
  ag : ∀ t, (∀ i, dstOf ops i ≠ some t) → look fr t = look fr0 t

theorem stOk_dst {i d : Nat} (h : stOk ops i = true) (hd : dstOf ops i = some d) : d ∉ slotsOf ops i ∧ ∀ j, j < ops.size → j ≠ i → dstOf ops j ≠ some d ∧ (d ∈ slotsOf ops j → i ∈ anc ops j) := by
  simp only [stOk, hd, Bool.and_eq_true, Bool.not_eq_true', List.all_eq_true, List.mem_range, Bool.or_eq_true] at h
  obtain ⟨_, h1, h2⟩ := h
  refine ⟨by simpa using h1, fun j hj hji => ?_⟩
  rcases h2 j hj with h3 | ⟨h3, h4⟩
  · exact absurd (Nat.eq_of_beq_eq_true h3) hji
  · refine ⟨fun hh => ?_, fun hh => ?_⟩
    · rw [hh] at h3; simp at h3
    · rcases h4 with h4 | h4
      · simp [hh] at h4
      · simpa using h4

/-- What only looks, taken in: nothing is done yet. -/
theorem JS.peek (hT : tt.ok P) {i : Nat} {p : Pl} {pend Pd : List Nat} {A : Array Bool} {fr : Fr} {h : Heap} {ρ : Ren} {s : Array Bool} {a : Act} {w : World} (J : JS P tt call n ops fr0 k Q ρ₀ T w₀ (.st i p) pend Pd A fr h ρ s a w) :
    ∃ fr', JS P tt call n ops fr0 k Q ρ₀ T w₀ p (i :: pend) (i :: Pd) (A.setIfInBounds i true) fr' h ρ s a w := by
  have hok := J.ok
  simp only [okPl, Bool.and_eq_true] at hok
  obtain ⟨⟨hr, hst⟩, hok⟩ := hok
  have hr : i ∈ Region.ready .any ops A := by simpa using hr
  obtain ⟨hlt, hAi⟩ := ready_lt hr
  have hAi := hAi J.asz
  have hns : ∀ o d, ops[i]? = some o → o.dst = some d → d ∉ oSlots ops o := fun o d ho hd => by
    have := (stOk_dst (d := d) hst (by simp only [dstOf, ho, hd])).1
    simpa only [slotsOf, ho] using this
  obtain ⟨o, fr', ho, hv, hag, hsa⟩ := vStill_ok (P := P) hT hns J.v
  have hdo : dstOf ops i = o.dst := by simp only [dstOf, ho]
  have hag : ∀ t, dstOf ops i ≠ some t → look fr' t = look fr t := fun t ht => hag t fun d hd hh => ht (by rw [hdo, hd, hh])
  have hiA : i < A.size := by rw [J.asz]; exact hlt
  refine ⟨fr', hok, by simp [J.asz], J.ssz, fun q hq => ?_, fun q hq => ?_, fun q hq => ?_, fun q => ?_, J.cs, closed_set J.cA hr, J.ren, J.keeps, J.kle, J.rel, ?_, fun q hq => ?_, hv, fun t ht => (hag t (ht i)).trans (J.ag t ht)⟩
  · rcases List.mem_cons.1 hq with rfl | hq
    · simp
    · exact List.mem_cons_of_mem _ (J.sub q hq)
  · rw [getD_set_eq hiA]
    rcases List.mem_cons.1 hq with rfl | hq
    · simp
    · rw [J.pdA q hq]; simp
  · rcases List.mem_cons.1 hq with rfl | hq
    · exact hst
    · exact J.st q hq
  · rw [J.eq q, getD_set_eq hiA]
    by_cases hqi : q = i
    · subst hqi; rw [hAi]; simp
    · simp [nbeq_ne hqi, hqi]
  · refine J.frm.same fun t => ?_
    rw [look_kill, look_kill]
    by_cases h1 : t ∈ DS ops (i :: Pd)
    · rw [if_pos h1]; exact .inr rfl
    · rw [if_neg h1]
      have h2 : t ∉ DS ops Pd := fun hh => h1 (by obtain ⟨p, hp, hpd⟩ := mem_DS.1 hh; exact mem_DS.2 ⟨p, List.mem_cons_of_mem _ hp, hpd⟩)
      rw [if_neg h2]
      exact .inl (hag t fun hh => h1 (mem_DS.2 ⟨i, by simp, hh⟩))
  · rcases List.mem_cons.1 hq with rfl | hq
    · exact hsa
    · have hqA := J.pdA q hq
      have hqi : q ≠ i := fun hh => by rw [hh, hAi] at hqA; cases hqA
      have hqlt : q < ops.size := by
        rcases Nat.lt_or_ge q A.size with h' | h'
        · rw [J.asz] at h'; exact h'
        · simp [Array.getElem?_eq_none h'] at hqA
      refine (J.still q hq).congr (fun t ht => hag t fun hh => ?_) (fun d hd => hag d fun hh => ?_)
      · -- it would come behind i
        have := ((stOk_dst hst hh).2 q hqlt hqi).2 ht
        have hi := ancGo_ok J.cA (fun j hj => J.cA q j hqA hj) ops.size [] (fun _ hq => by cases hq) i this
        rw [hAi] at hi; cases hi
      · exact ((stOk_dst hst hh).2 q hqlt hqi).1 hd

/-- What only looks, done. -/
theorem JS.done {pl : Pl} {pend Pd : List Nat} {A : Array Bool} {fr : Fr} {h : Heap} {ρ : Ren} {s : Array Bool} {a : Act} {w : World} (J : JS P tt call n ops fr0 k Q ρ₀ T w₀ pl pend Pd A fr h ρ s a w) {p : Nat} (hp : p ∈ Pd) (hr : p ∈ Region.ready .any ops s)
    {Qx : Exit → Act → World → Prop} : wpOp P ops Qx p (fun a' w' => JS P tt call n ops fr0 k Q ρ₀ T w₀ pl pend (Pd.filter (· != p)) A fr h ρ (s.setIfInBounds p true) a' w') a w := by
  obtain ⟨o, ho, hdo, hy⟩ := J.still p hp
  obtain ⟨hlt, hsp⟩ := ready_lt hr
  have hps : p < s.size := by rw [J.ssz]; exact hlt
  have e1 : slotsOf ops p = oSlots ops o := by simp only [slotsOf, ho]
  have e2 : dstOf ops p = o.dst := by simp only [dstOf, ho]
  have hsl : ∀ t ∈ oSlots ops o, t ∉ DS ops Pd := fun t ht hm => by
    obtain ⟨q, hq, hqd⟩ := mem_DS.1 hm
    by_cases hqp : q = p
    · subst hqp
      exact (stOk_dst (J.st q hq) hqd).1 (by rw [e1]; exact ht)
    · have := ((stOk_dst (J.st q hq) hqd).2 p hlt (Ne.symm hqp)).2 (by rw [e1]; exact ht)
      have hs := anc_ok J.cs hr q this
      rw [J.eq q] at hs
      simp [hq] at hs
  obtain ⟨u, hyu, hru⟩ := hy ρ T w a (fun _ => J.rel) (.of_kill J.frm hsl)
  refine YieldsAt.wpOp' ho hyu ⟨J.ok, J.asz, by simp [J.ssz], fun q hq => J.sub q (List.mem_filter.1 hq).1, fun q hq => J.pdA q (List.mem_filter.1 hq).1, fun q hq => J.st q (List.mem_filter.1 hq).1, fun q => ?_, closed_set J.cs hr, J.cA, J.ren, J.keeps, J.kle, J.rel, ?_, fun q hq => J.still q (List.mem_filter.1 hq).1, J.v, J.ag⟩
  · rw [getD_set_eq hps, J.eq q]
    by_cases hqp : q = p
    · subst hqp; rw [J.pdA q hp]; simp
    · rw [nbeq_ne hqp]
      simp [hqp]
  · have h1 := J.frm.put (v := match o.dst with | some d => look fr d | none => .any) hdo (show VRel ρ _ u by
      cases hod : o.dst with
      | none => simp only [VRel]
      | some d => exact hru d hod)
    refine h1.same fun t => ?_
    rw [look_kill]
    by_cases hm : t ∈ DS ops (Pd.filter (· != p))
    · rw [if_pos hm]; exact .inr rfl
    · rw [if_neg hm]
      refine .inl ?_
      cases hod : o.dst with
      | none =>
        simp only [putF]
        rw [look_kill, if_neg]
        intro hh
        obtain ⟨q, hq, hqd⟩ := mem_DS.1 hh
        refine hm (mem_DS.2 ⟨q, List.mem_filter.2 ⟨hq, ?_⟩, hqd⟩)
        have : q ≠ p := fun hqp => by rw [hqp, e2, hod] at hqd; cases hqd
        simpa using this
      | some d =>
        rw [look_putF]
        by_cases htd : t = d
        · rw [if_pos htd, htd]
        · rw [if_neg htd, look_kill, if_neg]
          intro hh
          obtain ⟨q, hq, hqd⟩ := mem_DS.1 hh
          refine hm (mem_DS.2 ⟨q, List.mem_filter.2 ⟨hq, ?_⟩, hqd⟩)
          have : q ≠ p := fun hqp => by rw [hqp, e2, hod] at hqd; cases hqd; exact htd rfl
          simpa using this

theorem okH_heads : ∀ {pl : Pl} {pend : List Nat} {A : Array Bool}, okH ops pl pend A = true → heads pl ≠ []
  | .ac i np rc p, _, _, _ => by simp [heads]
  | .alt p q, pend, A, h => by
    simp only [okH, Bool.and_eq_true] at h
    have := okH_heads h.1
    simp [heads, this]
  | .nil, _, _, h => by simp [okH] at h
  | .st _ _, _, _, h => by simp [okH] at h
theorem okH_pick : ∀ {pl : Pl} {pend : List Nat} {A : Array Bool} {fr : Fr} {h : Heap} {j : Nat}, okH ops pl pend A = true → j ∈ heads pl → vPl call tt n ops pl fr h Q →
    ∃ np rc p, acOk ops j pend np rc = true ∧ okPl ops p np (A.setIfInBounds j true) = true ∧ vAct call tt n ops j fr h (fun fr' h' => vAgain tt n ops fr' h' rc ∧ vPl call tt n ops p fr' h' Q)
  | .ac i np rc p, pend, A, fr, h, j, hok, hj, hv => by
    simp only [heads, List.mem_singleton] at hj
    subst hj
    simp only [okH, Bool.and_eq_true] at hok
    exact ⟨np, rc, p, hok.1, hok.2, hv⟩
  | .alt p q, pend, A, fr, h, j, hok, hj, hv => by
    simp only [okH, Bool.and_eq_true] at hok
    rcases List.mem_append.1 hj with hj | hj
    · exact okH_pick hok.1 hj hv.1
    · exact okH_pick hok.2 hj hv.2
  | .nil, _, _, _, _, _, hok, _, _ => by simp [okH] at hok
  | .st _ _, _, _, _, _, _, hok, _, _ => by simp [okH] at hok

theorem vAgain_ok (hT : tt.ok P) {fr : Fr} {h : Heap} : ∀ {l : List Nat}, vAgain tt n ops fr h l → ∀ p ∈ l, StillAt P n ops p fr h
  | q :: l, hv, p, hp => by
    rcases List.mem_cons.1 hp with rfl | hp
    · have hv := hv.1
      split at hv
      · rename_i o ho
        cases hd : dstOk n o.dst with
        | false => rw [hd] at hv; exact hv.elim
        | true =>
          rw [hd] at hv; simp only [cond_true] at hv
          have gd : ∀ {fr' : Fr} {ρ : Ren} {a : Act}, SlotRel ρ n fr' a (oSlots ops o) → SlotRel ρ n fr' a (gSlots ops o) := fun hf => hf.sub (fun t ht => by simp [oSlots, ht]) fun t _ => rfl
          rcases vGuard_ok hv with ⟨fr1, hsame, hq, hw⟩ | ⟨fr1, hsame, hq, hw⟩
          · rw [vLook_congr (evA_keep (fr := fr1) (S := oSlots ops o) fun t ht => by simp [oSlots, ht])] at hq
            obtain ⟨v, hv, hy⟩ := vLook_ok (P := P) hT hq
            refine ⟨o, ho, hd, fun ρ T w a hR hf => ?_⟩
            have hf1 : SlotRel ρ n fr1 a (oSlots ops o) := hf.sub (fun t ht => ht) fun t _ => hsame t
            obtain ⟨u, h1, h2⟩ := hy ρ T w a.eval hR (fun x => hf1.keep.ev x)
            refine ⟨u, .inl ⟨hw ρ n a (gd hf), .inl h1⟩, fun d hod => ?_⟩
            rw [hod] at hv
            simp only at hv
            rw [← hv]; exact h2
          · refine ⟨o, ho, hd, fun ρ T w a hR hf => ⟨undef, .inr ⟨hw ρ n a (gd hf), rfl⟩, fun d hod => ?_⟩⟩
            rw [hod] at hq
            simp only at hq
            rw [hq]; simp only [VRel]
      · exact hv.elim
    · exact vAgain_ok hT hv.2 p hp

/-- What acts, done. -/
theorem JS.act (hT : tt.ok P) (hc : WOk P call) {pl : Pl} {pend Pd : List Nat} {A : Array Bool} {fr : Fr} {h : Heap} {ρ : Ren} {s : Array Bool} {a : Act} {w : World} (J : JS P tt call n ops fr0 k Q ρ₀ T w₀ pl pend Pd A fr h ρ s a w) {j : Nat} (hr : j ∈ Region.ready .any ops s) (hj : j ∉ Pd)
    (hnorm : ∀ i p, pl ≠ .st i p) {Qx : Exit → Act → World → Prop} : wpOp P ops Qx j (fun a' w' => ∃ pl' pend' Pd' A' fr' h' ρ', JS P tt call n ops fr0 k Q ρ₀ T w₀ pl' pend' Pd' A' fr' h' ρ' (s.setIfInBounds j true) a' w') a w := by
  obtain ⟨hlt, hsj⟩ := ready_lt hr
  have hsj := hsj J.ssz
  have hjs : j < s.size := by rw [J.ssz]; exact hlt
  have hjA : j < A.size := by rw [J.asz]; exact hlt
  have hAj : A.getD j false = false := by
    have := J.eq j
    rw [hsj] at this
    have hc : Pd.contains j = false := by simpa using hj
    rw [hc] at this
    simpa using this.symm
  have hsA : ∀ q, s.getD q false = true → A.getD q false = true := fun q hq => by
    rw [J.eq q] at hq
    simp only [Bool.and_eq_true] at hq
    exact hq.1
  obtain ⟨h1, o, ho, hall⟩ := mem_ready.1 hr
  have hrA : j ∈ Region.ready .any ops A := ready_of J.asz ho hAj fun q hq => by
    refine hsA q ?_
    simp only [hasEdge, ho, List.any_eq_true, Bool.and_eq_true] at hq
    obtain ⟨e, he, hb, hq⟩ := hq
    have := hall e (by simpa using he) hb
    rwa [Nat.eq_of_beq_eq_true hq] at this
  have hpick : ∃ np rc p, acOk ops j pend np rc = true ∧ okPl ops p np (A.setIfInBounds j true) = true ∧ vAct call tt n ops j fr h (fun fr' h' => vAgain tt n ops fr' h' rc ∧ vPl call tt n ops p fr' h' Q) := by
    have hok := J.ok
    have hv := J.v
    cases pl with
    | nil => simp only [okPl, List.isEmpty_iff] at hok; rw [hok] at hrA; cases hrA
    | st i p => exact (hnorm i p rfl).elim
    | ac i np rc p =>
      simp only [okPl, Bool.and_eq_true, beq_iff_eq] at hok
      have hji : j = i := by rw [hok.1.1] at hrA; simpa using hrA
      subst hji
      exact ⟨np, rc, p, hok.1.2, hok.2, hv⟩
    | alt p q =>
      simp only [okPl, Bool.and_eq_true, beq_iff_eq] at hok
      rw [hok.1.1] at hrA
      rcases List.mem_append.1 hrA with hm | hm
      · exact okH_pick hok.1.2 hm hv.1
      · exact okH_pick hok.2 hm hv.2
  obtain ⟨np, rc, p, hac, hokp, hv⟩ := hpick
  simp only [acOk, Bool.and_eq_true, List.all_eq_true, Bool.or_eq_true, Bool.not_eq_true'] at hac
  obtain ⟨⟨⟨a1, a2⟩, a3⟩, a4⟩ := hac
  have hPnp : ∀ q ∈ Pd, q ∈ np := fun q hq => by
    rcases a1 q (J.sub q hq) with h' | h'
    · have := anc_ok J.cs hr q (by simpa using h')
      rw [J.eq q] at this
      simp [hq] at this
    · simpa using h'
  have hDS : ∀ t, t ∈ DS ops Pd → t ∈ DS ops np := fun t ht => by
    obtain ⟨q, hq, hqd⟩ := mem_DS.1 ht
    exact mem_DS.2 ⟨q, hPnp q hq, hqd⟩
  refine wpOp_mono ?_ (vAct_ok (P := P) (Q := Qx) hT hc J.rel J.frm (fun t ht hm => by
    have := a2 t ht
    have h2 := hDS t hm
    simp [h2] at this) hv)
  rintro a' w' ⟨fr', h', ρ', b1, b2, b3, b4, b5, b6, b7, b8⟩
  have hdst : ∀ d, dstOf ops j = some d → ∀ q ∈ np, d ∉ slotsOf ops q ∧ dstOf ops q ≠ some d := fun d hd q hq => by
    rw [hd] at a3
    simp only [List.all_eq_true, Bool.and_eq_true, Bool.not_eq_true'] at a3
    obtain ⟨c1, c2⟩ := a3 q hq
    refine ⟨by simpa using c1, fun hh => ?_⟩
    rw [hh] at c2; simp at c2
  refine ⟨p, np, Pd, A.setIfInBounds j true, fr', h', ρ', hokp, by simp [J.asz], by simp [J.ssz], hPnp, fun q hq => getD_set_true (J.pdA q hq), J.st, fun q => ?_, closed_set J.cs hr, closed_set J.cA hrA, fun i hi => (b1 i (Nat.lt_of_lt_of_le hi J.kle)).trans (J.ren i hi), J.keeps.trans b6, Nat.le_trans J.kle b2, b3, ?_, fun q hq => ?_, b8, fun t ht => (b5 t (ht j)).trans (J.ag t ht)⟩
  · rw [getD_set_eq hjs, getD_set_eq hjA, J.eq q]
    by_cases hqj : q = j
    · subst hqj; simp [hj]
    · rw [nbeq_ne hqj]; simp
  · refine b4.same fun t => ?_
    rw [look_kill, look_kill]
    by_cases hm : t ∈ DS ops Pd
    · rw [if_pos hm]; exact .inr rfl
    · rw [if_neg hm, if_neg (fun hh => hm (List.mem_filter.1 hh).1)]; exact .inl rfl
  · have hqnp := hPnp q hq
    rcases a4 q hqnp with hn | hl
    · -- it reads no memory
      have hst := (J.still q hq).congr (fr' := fr') (fun t ht => b5 t fun hh => (hdst t hh q hqnp).1 ht) (fun d hd => b5 d fun hh => (hdst d hh q hqnp).2 hd)
      obtain ⟨oq, hoq, hdq, hyq⟩ := hst
      refine ⟨oq, hoq, hdq, fun ρ T w a hR hf => hyq ρ T w a (fun hl => ?_) hf⟩
      have : opAt ops q = oq.op := by simp only [opAt, hoq]
      rw [this, hl] at hn
      cases hn
    · exact vAgain_ok hT b7 q (by simpa using hl)

theorem JS.norm (hT : tt.ok P) : ∀ {pl : Pl} {pend Pd : List Nat} {A : Array Bool} {fr : Fr} {h : Heap} {ρ : Ren} {s : Array Bool} {a : Act} {w : World}, JS P tt call n ops fr0 k Q ρ₀ T w₀ pl pend Pd A fr h ρ s a w →
    ∃ pl' pend' Pd' A' fr' h' ρ', (∀ i p, pl' ≠ .st i p) ∧ JS P tt call n ops fr0 k Q ρ₀ T w₀ pl' pend' Pd' A' fr' h' ρ' s a w
  | .st i p, pend, Pd, A, fr, h, ρ, s, a, w, J => by
    obtain ⟨fr', J'⟩ := J.peek hT
    exact J'.norm hT
  | .nil, pend, Pd, A, fr, h, ρ, s, a, w, J => ⟨_, _, _, _, _, _, _, (fun i p hh => by cases hh), J⟩
  | .ac .., pend, Pd, A, fr, h, ρ, s, a, w, J => ⟨_, _, _, _, _, _, _, (fun i p hh => by cases hh), J⟩
  | .alt .., pend, Pd, A, fr, h, ρ, s, a, w, J => ⟨_, _, _, _, _, _, _, (fun i p hh => by cases hh), J⟩

/-- When nothing can come up any more. -/
theorem JS.fin (hdn : edgesDown ops = true) {pl : Pl} {pend Pd : List Nat} {A : Array Bool} {fr : Fr} {h : Heap} {ρ : Ren} {s : Array Bool} {a : Act} {w : World} (J : JS P tt call n ops fr0 k Q ρ₀ T w₀ pl pend Pd A fr h ρ s a w) (hnorm : ∀ i p, pl ≠ .st i p)
    (hr : Region.ready .any ops s = []) : After k n ρ₀ T w₀ (fun fr h => (∀ t, (∀ i, dstOf ops i ≠ some t) → look fr t = look fr0 t) ∧ Q fr h) a w := by
  have hinA : ∀ q, A.getD q false = true → ∃ o, ops[q]? = some o := fun q hq => by
    have : q < A.size := by
      rcases Nat.lt_or_ge q A.size with h' | h'
      · exact h'
      · simp [Array.getElem?_eq_none h'] at hq
    rw [J.asz] at this
    exact ⟨ops[q], by simp [this]⟩
  have hlow : ∀ q j, hasEdge ops q j = true → j < q := fun q j hq => by
    unfold hasEdge at hq
    split at hq
    · rename_i o ho
      have hlt := (Array.getElem?_eq_some_iff.1 ho).1
      simp only [edgesDown, List.all_eq_true, List.mem_range] at hdn
      have := hdn q hlt
      simp only [ho, List.all_eq_true, Bool.or_eq_true, Bool.not_eq_true'] at this
      simp only [List.any_eq_true, Bool.and_eq_true] at hq
      obtain ⟨e, he, hb, hj⟩ := hq
      rcases this e he with h' | h'
      · rw [hb] at h'; cases h'
      · rw [← Nat.eq_of_beq_eq_true hj]; exact nblt_iff.1 h'
    · cases hq
  have hmin : ∀ m q, q ≤ m → q ∈ Pd → False := by
    intro m
    induction m using Nat.strongRecOn with
    | _ m ih =>
      intro q hqm hq
      obtain ⟨o, ho⟩ := hinA q (J.pdA q hq)
      have : q ∈ Region.ready .any ops s := by
        refine ready_of J.ssz ho (by rw [J.eq q]; simp [hq]) fun j hj => ?_
        have hjq := hlow q j hj
        have hjA := J.cA q j (J.pdA q hq) hj
        rw [J.eq j, hjA]
        have : j ∉ Pd := fun hh => ih j (by omega) j (Nat.le_refl _) hh
        simp [this]
      rw [hr] at this; cases this
  have hPd : Pd = [] := by
    cases Pd with
    | nil => rfl
    | cons q l => exact (hmin q q (Nat.le_refl _) (by simp)).elim
  subst hPd
  have hsA : s = A := ext_of_getD (by rw [J.ssz, J.asz]) fun i => by rw [J.eq i]; simp
  subst hsA
  have hok := J.ok
  cases pl with
  | nil => exact ⟨ρ, fr, h, J.ren, ⟨J.kle, J.rel, J.frm⟩, J.keeps, J.ag, J.v⟩
  | st i p => exact (hnorm i p rfl).elim
  | ac i np rc p =>
    simp only [okPl, Bool.and_eq_true, beq_iff_eq] at hok
    rw [hr] at hok; cases hok.1.1
  | alt p q =>
    simp only [okPl, Bool.and_eq_true, beq_iff_eq] at hok
    rw [hr] at hok
    have := okH_heads hok.1.2
    cases hp : heads p with
    | nil => exact (this hp).elim
    | cons x l => rw [hp] at hok; cases hok.1.1

theorem cnt_lt {p q : Nat → Bool} {x : Nat} : ∀ (l : List Nat), (∀ y ∈ l, p y = true → q y = true) → x ∈ l → q x = true → p x = false → l.countP p < l.countP q
  | [], _, h, _, _ => by cases h
  | y :: l, hpq, hx, hqx, hpx => by
    have hle : l.countP p ≤ l.countP q := List.countP_mono_left fun y hy => hpq y (by simp [hy])
    rw [List.countP_cons, List.countP_cons]
    rcases List.mem_cons.1 hx with rfl | hx
    · rw [if_neg (by rw [hpx]; simp), if_pos hqx]; omega
    · have := cnt_lt l (fun y hy => hpq y (by simp [hy])) hx hqx hpx
      by_cases hy : p y = true
      · rw [if_pos hy, if_pos (hpq y (by simp) hy)]; omega
      · rw [if_neg hy]; split <;> omega

theorem wpAny_JS (hT : tt.ok P) (hc : WOk P call) (hdn : edgesDown ops = true) : ∀ (m : Nat) {pl : Pl} {pend Pd : List Nat} {A : Array Bool} {fr : Fr} {h : Heap} {ρ : Ren} {s : Array Bool} {a : Act} {w : World}, JS P tt call n ops fr0 k Q ρ₀ T w₀ pl pend Pd A fr h ρ s a w →
    (List.range ops.size).countP (fun i => !s.getD i false) ≤ m → wpAny P .any ops (rpost k n ρ₀ T w₀ (fun fr h => (∀ t, (∀ i, dstOf ops i ≠ some t) → look fr t = look fr0 t) ∧ Q fr h)) m s a w
  | 0, pl, pend, Pd, A, fr, h, ρ, s, a, w, J, hm => by
    have hr : Region.ready .any ops s = [] := by
      cases hr : Region.ready .any ops s with
      | nil => rfl
      | cons q l =>
        exfalso
        obtain ⟨hlt, hq⟩ := ready_lt (ops := ops) (s := s) (q := q) (by rw [hr]; simp)
        have : 0 < (List.range ops.size).countP (fun i => !s.getD i false) := List.countP_pos_iff.2 ⟨q, by simpa using hlt, by simp only [hq J.ssz]; rfl⟩
        omega
    obtain ⟨pl', pend', Pd', A', fr', h', ρ', hn, J'⟩ := J.norm hT
    exact ⟨hr, J'.fin hdn hn hr⟩
  | m + 1, pl, pend, Pd, A, fr, h, ρ, s, a, w, J, hm => by
    obtain ⟨pl', pend', Pd', A', fr', h', ρ', hn, J'⟩ := J.norm hT
    refine ⟨fun hr => J'.fin hdn hn hr, fun j hj => ?_⟩
    obtain ⟨hlt, hsj⟩ := ready_lt hj
    have hsj := hsj J.ssz
    have hjs : j < s.size := by rw [J.ssz]; exact hlt
    have hcnt : (List.range ops.size).countP (fun i => !(s.setIfInBounds j true).getD i false) ≤ m := by
      have := cnt_lt (p := fun i => !(s.setIfInBounds j true).getD i false) (q := fun i => !s.getD i false) (x := j) (List.range ops.size) (fun y _ hy => by
        simp only [getD_set_eq hjs, Bool.not_eq_true', Bool.or_eq_false_iff] at hy ⊢; exact hy.2) (by simpa using hlt) (by simp only [hsj]; rfl) (by simp only [getD_set_eq hjs, Nat.beq_refl]; rfl)
      omega
    by_cases hjp : j ∈ Pd'
    · exact wpOp_mono (fun a' w' J2 => wpAny_JS hT hc hdn m J2 hcnt) (J'.done hjp hj)
    · exact wpOp_mono (fun a' w' ⟨_, _, _, _, _, _, _, J2⟩ => wpAny_JS hT hc hdn m J2 hcnt) (J'.act hT hc hj hjp hn)

/-- A region that draws, by a plan. -/
theorem awp_plan (hT : tt.ok P) (hc : WOk P call) (hm : P.follows .mixedOrders = true) {id : Nat} {pl : Pl} (hok : (okPl ops pl [] (Array.replicate ops.size false) && edgesDown ops) = true) {fr : Fr} {h : Heap} {Q : Exit → Fr → Heap → Prop}
    (hv : vPl call tt n ops pl fr h (Q .normal)) : AWp P k n (.region id ops true) (fun e fr' h' => (∀ t, (∀ i, dstOf ops i ≠ some t) → look fr' t = look fr t) ∧ Q e fr' h') fr h := by
  intro ρ T w a hs
  simp only [Bool.and_eq_true] at hok
  have hs' : St k n ρ T fr h a w.drew := ⟨hs.le, hs.rel.drew, hs.fr⟩
  have hz : ∀ i, (Array.replicate ops.size false).getD i false = false := fun i => by
    by_cases h : i < ops.size <;> simp [h]
  have J : JS P tt call n ops fr k (Q .normal) ρ T w.drew pl [] [] (Array.replicate ops.size false) fr h ρ (Array.replicate ops.size false) a w.drew :=
    ⟨hok.1, by simp, by simp, (fun i hi => by cases hi), (fun i hi => by cases hi), (fun i hi => by cases hi), (fun i => by rw [hz]; simp), (fun i j hi _ => by rw [hz] at hi; cases hi), (fun i j hi _ => by rw [hz] at hi; cases hi), (fun _ _ => rfl), Keeps.refl _ _, hs.le, hs'.rel, hs'.fr, (fun p hp => by cases hp), hv, (fun _ _ => rfl)⟩
  have := wp_region_any (id := id) (Q := rpost k n ρ T w.drew (fun fr' h => (∀ t, (∀ i, dstOf ops i ≠ some t) → look fr' t = look fr t) ∧ Q .normal fr' h)) hm (wpAny_JS hT hc hok.2 ops.size J (Nat.le_trans List.countP_le_length (by simp)))
  refine wp_mono this fun e a' w' hh => ?_
  cases e <;> first | exact After.trans (fun _ _ => rfl) (Keeps.drew T w) hh | exact hh.elim
end
end Go.Proofs.YtpbdlibgbkhlhaaGreat.SE
