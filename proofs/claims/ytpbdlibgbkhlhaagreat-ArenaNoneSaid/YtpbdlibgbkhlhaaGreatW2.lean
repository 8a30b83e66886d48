/- Regions that draw their order and make a variable: it may be made early. -/
import Derived.Test.YtpbdlibgbkhlhaaGreatW1
namespace Go.Proofs.YtpbdlibgbkhlhaaGreat.SE
open Go
section
variable {P : Program} {tt : TT} {n : Nat} {ops : Array Oper}

theorem put_slots {a : Act} {d : Option Tmp} {v : Value} {t : Nat} (h : d ≠ some t) : (a.put d v).tmps.getD t undef = a.tmps.getD t undef := by
  cases d with
  | none => rfl
  | some d =>
    have : d ≠ t := fun hh => h (by rw [hh])
    simp only [Act.put, Array.getD_eq_getD_getElem?]
    rw [Array.getElem?_setIfInBounds_ne this]
theorem upon_slots {Q : Exit → Act → World → Prop} {o : Oper} {a : Act} {K : Act → World → Prop} : ∀ {r : Result Next}, o.upon P a K Q r → o.upon P a (fun a' w' => K a' w' ∧ ∀ t, o.dst ≠ some t → a'.tmps.getD t undef = a.tmps.getD t undef) Q r
  | .ok n w', hh => by
    have key : ∀ (a1 : Act) (v : Value) (w : World), a1.tmps = a.tmps → K (a1.put o.dst v) w → K (a1.put o.dst v) w ∧ ∀ t, o.dst ≠ some t → (a1.put o.dst v).tmps.getD t undef = a.tmps.getD t undef := fun a1 v w h1 hk => ⟨hk, fun t ht => by rw [put_slots ht, h1]⟩
    cases n <;> simp only [Oper.upon] at hh ⊢ <;>
      first
        | exact key _ _ _ rfl hh
        | exact Calls.mono hh (fun e w'' he => by cases e <;> first | exact key _ _ _ rfl he | exact he)
        | exact Rows.mono hh (fun _ _ he => key _ _ _ rfl he)
  | .halt x w', hh => by cases x <;> simp only [Oper.upon] at hh ⊢ <;> exact hh
theorem wpOp_slots {Q : Exit → Act → World → Prop} {i : Nat} {o : Oper} (ho : ops[i]? = some o) {a : Act} {w : World} {K : Act → World → Prop} (hh : wpOp P ops Q i K a w) :
    wpOp P ops Q i (fun a' w' => K a' w' ∧ ∀ t, o.dst ≠ some t → a'.tmps.getD t undef = a.tmps.getD t undef) a w := by
  unfold wpOp at *
  simp only [ho] at hh ⊢
  split
  · rename_i hw; simp only [hw, if_true] at hh; exact hh.imp (fun h => upon_slots h) id
  · rename_i hw; simp only [hw] at hh; exact ⟨hh, fun t ht => put_slots ht⟩
theorem wpOp_strip {Q Q' : Exit → Act → World → Prop} (hp : ∀ c a w, ¬ Q (.panic c) a w) (hl : ¬ LetsOut Q) {i : Nat} {a : Act} {w : World} {K : Act → World → Prop} (hh : wpOp P ops Q i K a w) : wpOp P ops Q' i K a w := by
  unfold wpOp at *
  split
  · rename_i ho; simp only [ho] at hh; exact hh
  · rename_i o ho
    simp only [ho] at hh
    split
    · rename_i hw
      simp only [hw, if_true] at hh
      refine .inl ?_
      rcases hh with hh | hh
      · unfold Oper.wp at *
        generalize (execOp a.eval o).run P w = r at *
        cases r with
        | ok n w' =>
          cases n <;> simp only [Oper.upon] at hh ⊢ <;>
            first
              | exact hh
              | exact Calls.mono hh (fun e w'' he => by cases e <;> first | exact he | exact (hp _ _ _ he).elim | exact (hl he).elim)
        | halt x w' => cases x <;> simp only [Oper.upon] at hh ⊢ <;> first | exact (hp _ _ _ hh).elim | exact hh
      · exact (hl hh.2).elim
    · rename_i hw; simp only [hw] at hh; exact hh

/-! ### One step, in a frame of which only its own slots are known -/
def dstV (fr : Fr) : Option Tmp → AV
  | some d => look fr d
  | none => .any
def ActS (P : Program) (n : Nat) (ops : Array Oper) (i : Nat) (fr : Fr) (h : Heap) (K : Fr → Heap → Prop) : Prop := ∃ o, ops[i]? = some o ∧ dstOk n o.dst = true ∧
  RPlan P h.next n ops [.xx i] (fun fr1 h1 => K (putF fr o.dst (dstV fr1 o.dst)) h1) (keepF fr (slotsOf ops i)) h
theorem rpost_panic {k : Nat} {ρ : Ren} {T : Nat → Prop} {w₀ : World} {Q : Fr → Heap → Prop} : (∀ c a w, ¬ rpost k n ρ T w₀ Q (.panic c) a w) ∧ ¬ LetsOut (rpost k n ρ T w₀ Q) := ⟨fun _ _ _ h => h, fun ⟨_, _, h⟩ => h⟩
theorem ActS.ok {i : Nat} {fr : Fr} {h : Heap} {K : Fr → Heap → Prop} (hs : ActS P n ops i fr h K) {ρ : Ren} {T : Nat → Prop} {w : World} {a : Act} {l : List Nat} (hR : Rel h ρ T w) (hf : FrRel ρ n (killF fr l) a) (hl : ∀ t ∈ slotsOf ops i, t ∉ l) {Q : Exit → Act → World → Prop} :
    wpOp P ops Q i (fun a' w' => ∃ fr' h' ρ', (∀ j, j < h.next → ρ' j = ρ j) ∧ h.next ≤ h'.next ∧ Rel h' ρ' T w' ∧ FrRel ρ' n (killF fr' (l.filter fun t => dstOf ops i != some t)) a' ∧ (∀ t, dstOf ops i ≠ some t → look fr' t = look fr t) ∧ Keeps T w w' ∧ K fr' h') a w := by
  obtain ⟨o, ho, hd, hp⟩ := hs
  have hdo : dstOf ops i = o.dst := by simp only [dstOf, ho]
  have h1 := hp ρ T w a ⟨Nat.le_refl _, hR, (SlotRel.of_kill hf hl).keep⟩
  unfold wpPlan at h1
  refine wpOp_mono ?_ (wpOp_strip (rpost_panic).1 (rpost_panic).2 (wpOp_slots ho h1))
  rintro a' w' ⟨⟨ρ', fr1, h', b1, b2, b3, b4⟩, hsl⟩
  have hle : ρ.le ρ' := fun j b hb => by
    have hj : j < h.next := by
      obtain ⟨_, _, _, _, r4, _⟩ := hR
      rcases Nat.lt_or_ge j h.next with hlt | hge
      · exact hlt
      · rw [r4 j hge] at hb; cases hb
    rw [b1 j hj]; exact hb
  refine ⟨putF fr o.dst (dstV fr1 o.dst), h', ρ', b1, b2.le, b2.rel, ⟨b2.fr.size, b2.fr.defers, fun t => ?_⟩, fun t ht => ?_, b3, b4⟩
  · rw [look_kill]
    by_cases ht : t ∈ l.filter fun t => dstOf ops i != some t
    · rw [if_pos ht]; simp only [VRel]
    · rw [if_neg ht]
      by_cases htd : o.dst = some t
      · rw [htd, look_putF, if_pos rfl]
        simp only [dstV]
        exact b2.fr.vals t
      · have htl : t ∉ l := fun hh => ht (List.mem_filter.2 ⟨hh, by rw [hdo]; simpa using htd⟩)
        have e : look (putF fr o.dst (dstV fr1 o.dst)) t = look fr t := by
          cases hod : o.dst with
          | none => rfl
          | some d => rw [look_putF, if_neg (fun hh => htd (by rw [hod, hh]))]
        rw [e, hsl t htd]
        have := hf.vals t
        rw [look_kill, if_neg htl] at this
        exact VRel.mono hle _ _ this
  · rw [hdo] at ht
    cases hod : o.dst with
    | none => rfl
    | some d => rw [look_putF, if_neg (fun hh => ht (by rw [hod, hh]))]
theorem ActS.mono {i : Nat} {fr : Fr} {h : Heap} {K K' : Fr → Heap → Prop} (hk : ∀ fr h, K fr h → K' fr h) (hs : ActS P n ops i fr h K) : ActS P n ops i fr h K' := by
  obtain ⟨o, ho, hd, hp⟩ := hs
  refine ⟨o, ho, hd, fun ρ T w a hst => wpPlan_mono (fun e a w hh => ?_) _ _ _ (hp ρ T w a hst)⟩
  cases e <;> first | (obtain ⟨ρ', fr1, h', b1, b2, b3, b4⟩ := hh; exact ⟨ρ', fr1, h', b1, b2, b3, hk _ _ b4⟩) | exact hh.elim

/-! ### The variable -/
/-- What is known of the operation q that makes a variable: its slot, its type, what lies in it. -/
structure AH (P : Program) (n : Nat) (ops : Array Oper) (q d : Nat) (e : TypeId) (z : Array Value) (c : Cs) : Prop where
  op : ∃ o, ops[q]? = some o ∧ o.op = .alloc e ∧ o.guard = none ∧ o.dst = some d
  lt : d < n
  free : ∀ j, hasEdge ops q j = false
  one : ∀ i, i ≠ q → dstOf ops i ≠ some d
  run : ∀ w, (Instr.alloc e true (.tuple #[])).run P w = .ok (.pointer (some ⟨w.heap.size, 0, none⟩)) (w.alloc (.cells z e))
  size : z.size = c.size
  rel : ∀ ρ, CRel ρ c z 0
def roLow (rs : List Nat) : HM → Bool
  | [] => true
  | (i, some (.ro c)) :: r => (Nat.beq c.size 0 || rs.contains i) && roLow rs r
  | _ :: r => roLow rs r
theorem roLow_get {rs : List Nat} : ∀ {m : HM} {i : Nat} {c : Cs}, roLow rs m = true → HM.get m i = some (.ro c) → c.size = 0 ∨ i ∈ rs
  | [], i, c, _, hg => by simp [HM.get] at hg
  | (j, x) :: r, i, c, hr, hg => by
    simp only [HM.get] at hg
    cases hb : Nat.beq j i <;> rw [hb] at hg
    · simp only [cond_false] at hg
      refine roLow_get (m := r) ?_ hg
      unfold roLow at hr
      split at hr
      · rename_i h; cases h
      · rename_i h; cases h; simp only [Bool.and_eq_true] at hr; exact hr.2
      · rename_i h; cases h; exact hr
    · simp only [cond_true] at hg
      subst hg
      unfold roLow at hr
      simp only [Bool.and_eq_true, Bool.or_eq_true] at hr
      rw [← Nat.eq_of_beq_eq_true hb]
      rcases hr.1 with h | h
      · exact .inl (Nat.eq_of_beq_eq_true h)
      · exact .inr (by simpa using h)
def roNums : HM → List Nat
  | [] => []
  | (i, some (.ro _)) :: r => i :: roNums r
  | _ :: r => roNums r

/-! ### Plans -/
def stepSP (P : Program) (n : Nat) (ops : Array Oper) (i : Nat) (fr : Fr) (h : Heap) (fr' : Fr) : Prop := (∀ t, dstOf ops i ≠ some t → look fr' t = look fr t) ∧ StillAt P n ops i fr' h
/-- What a plan does; b: q is still to come; kk: what may be read alone. -/
def plP (P : Program) (n : Nat) (ops : Array Oper) (q d : Nat) (e : TypeId) (c : Cs) (kk : List Nat) (Q : Fr → Heap → Prop) : Bool → Pl → Fr → Heap → Prop
  | _, .nil, fr, h => Q fr h
  | b, .st i p, fr, h => ∃ fr', stepSP P n ops i fr h fr' ∧ plP P n ops q d e c kk Q b p fr' h
  | b, .ac i _ rc p, fr, h => bif b && Nat.beq i q then (roLow kk h.m = true ∧ (∀ x ∈ rc, StillAt P n ops x (putF fr (some d) (.ptr h.next 0)) (h.push (.cells e c))) ∧ plP P n ops q d e c kk Q false p (putF fr (some d) (.ptr h.next 0)) (h.push (.cells e c)))
      else ActS P n ops i fr h (fun fr' h' => (∀ x ∈ rc, StillAt P n ops x fr' h') ∧ plP P n ops q d e c kk Q b p fr' h')
  | _, .alt _ _, _, _ => False
def isQ (b : Bool) (q i : Nat) : Bool := b && Nat.beq i q
def okB (ops : Array Oper) (q : Nat) : Bool → Pl → List Nat → Array Bool → Bool
  | _, .nil, _, A => (Region.ready .any ops A).isEmpty
  | b, .st i p, pend, A => (Region.ready .any ops A).contains i && stOk ops i && !isQ b q i && okB ops q b p (i :: pend) (A.setIfInBounds i true)
  | b, .ac i np rc p, pend, A => (Region.ready .any ops A).contains i && (Region.ready .any ops A).all (fun j => Nat.beq j i || isQ b q j) && (!b || Nat.beq i q || (Region.ready .any ops (A.setIfInBounds q true)).all fun j => Nat.beq j i) &&
      acOk ops i pend np rc && okB ops q (b && !Nat.beq i q) p np (A.setIfInBounds i true)
  | _, .alt _ _, _, _ => false

variable {q d : Nat} {e : TypeId} {z : Array Value} {c : Cs} {kk : List Nat} {fr0 : Fr} {k : Nat} {Q : Fr → Heap → Prop} {ρ₀ : Ren} {T : Nat → Prop} {w₀ : World}
structure JE (P : Program) (n : Nat) (ops : Array Oper) (q d : Nat) (e : TypeId) (c : Cs) (kk : List Nat) (fr0 : Fr) (k : Nat) (Q : Fr → Heap → Prop) (ρ₀ : Ren) (T : Nat → Prop) (w₀ : World) (b : Bool) (pl : Pl) (pend Pd : List Nat) (A : Array Bool) (fr : Fr) (h : Heap) (ρ : Ren) (s : Array Bool) (a : Act) (w : World) : Prop where
  ok : okB ops q b pl pend A = true
  asz : A.size = ops.size
  ssz : s.size = ops.size
  sub : ∀ i ∈ Pd, i ∈ pend
  pdA : ∀ i ∈ Pd, A.getD i false = true
  st : ∀ i ∈ Pd, stOk ops i = true
  eq : ∀ i, s.getD i false = (A.getD i false && !Pd.contains i)
  cs : Closed ops s
  cA : Closed ops A
  ren : ∀ i, i < k → ρ i = ρ₀ i
  keeps : Keeps T w₀ w
  kle : k ≤ h.next
  rel : Rel h ρ T w
  frm : FrRel ρ n (killF fr (DS ops Pd)) a
  still : ∀ p ∈ Pd, StillAt P n ops p fr h
  v : plP P n ops q d e c kk Q b pl fr h
  ag : ∀ t, (∀ i, dstOf ops i ≠ some t) → look fr t = look fr0 t
  dn : b = true → look fr d = .any
  qn : b = true → A.getD q false = false

theorem JE.peek {b : Bool} (hA : b = true → AH P n ops q d e z c) {i : Nat} {p : Pl} {pend Pd : List Nat} {A : Array Bool} {fr : Fr} {h : Heap} {ρ : Ren} {s : Array Bool} {a : Act} {w : World} (J : JE P n ops q d e c kk fr0 k Q ρ₀ T w₀ b (.st i p) pend Pd A fr h ρ s a w) :
    ∃ fr', JE P n ops q d e c kk fr0 k Q ρ₀ T w₀ b p (i :: pend) (i :: Pd) (A.setIfInBounds i true) fr' h ρ s a w := by
  have hok := J.ok
  simp only [okB, Bool.and_eq_true, Bool.not_eq_true'] at hok
  obtain ⟨⟨⟨hr, hst⟩, hiq⟩, hok⟩ := hok
  have hr : i ∈ Region.ready .any ops A := by simpa using hr
  obtain ⟨hlt, hAi⟩ := ready_lt hr
  have hAi := hAi J.asz
  obtain ⟨fr', ⟨hag, hsa⟩, hv⟩ := J.v
  have hiA : i < A.size := by rw [J.asz]; exact hlt
  have hiq' : b = true → i ≠ q := fun hb hh => by subst hh; rw [hb] at hiq; simp [isQ] at hiq
  refine ⟨fr', hok, by simp [J.asz], J.ssz, fun x hx => ?_, fun x hx => ?_, fun x hx => ?_, fun x => ?_, J.cs, closed_set J.cA hr, J.ren, J.keeps, J.kle, J.rel, ?_, fun x hx => ?_, hv, fun t ht => (hag t (ht i)).trans (J.ag t ht), fun hb => ?_, fun hb => ?_⟩
  · rcases List.mem_cons.1 hx with rfl | hx
    · simp
    · exact List.mem_cons_of_mem _ (J.sub x hx)
  · rw [getD_set_eq hiA]
    rcases List.mem_cons.1 hx with rfl | hx
    · simp
    · rw [J.pdA x hx]; simp
  · rcases List.mem_cons.1 hx with rfl | hx
    · exact hst
    · exact J.st x hx
  · rw [J.eq x, getD_set_eq hiA]
    by_cases hqi : x = i
    · subst hqi; rw [hAi]; simp
    · simp [nbeq_ne hqi, hqi]
  · refine J.frm.same fun t => ?_
    rw [look_kill, look_kill]
    by_cases h1 : t ∈ DS ops (i :: Pd)
    · rw [if_pos h1]; exact .inr rfl
    · rw [if_neg h1]
      have h2 : t ∉ DS ops Pd := fun hh => h1 (by obtain ⟨p, hp, hpd⟩ := mem_DS.1 hh; exact mem_DS.2 ⟨p, List.mem_cons_of_mem _ hp, hpd⟩)
      rw [if_neg h2]
      exact .inl (hag t fun hh => h1 (mem_DS.2 ⟨i, by simp, hh⟩))
  · rcases List.mem_cons.1 hx with rfl | hx
    · exact hsa
    · have hqA := J.pdA x hx
      have hqi : x ≠ i := fun hh => by rw [hh, hAi] at hqA; cases hqA
      have hqlt : x < ops.size := by
        rcases Nat.lt_or_ge x A.size with h' | h'
        · rw [J.asz] at h'; exact h'
        · simp [Array.getElem?_eq_none h'] at hqA
      refine (J.still x hx).congr (fun t ht => hag t fun hh => ?_) (fun d hd => hag d fun hh => ?_)
      · have := ((stOk_dst hst hh).2 x hqlt hqi).2 ht
        have hi := ancGo_ok J.cA (fun j hj => J.cA x j hqA hj) ops.size [] (fun _ hq => by cases hq) i this
        rw [hAi] at hi; cases hi
      · exact ((stOk_dst hst hh).2 x hqlt hqi).1 hd
  · rw [hag d ((hA hb).one i (hiq' hb))]; exact J.dn hb
  · rw [getD_set_eq hiA, J.qn hb, nbeq_ne (Ne.symm (hiq' hb))]; rfl

theorem JE.done {b : Bool} {pl : Pl} {pend Pd : List Nat} {A : Array Bool} {fr : Fr} {h : Heap} {ρ : Ren} {s : Array Bool} {a : Act} {w : World} (J : JE P n ops q d e c kk fr0 k Q ρ₀ T w₀ b pl pend Pd A fr h ρ s a w) {p : Nat} (hp : p ∈ Pd) (hr : p ∈ Region.ready .any ops s)
    {Qx : Exit → Act → World → Prop} : wpOp P ops Qx p (fun a' w' => JE P n ops q d e c kk fr0 k Q ρ₀ T w₀ b pl pend (Pd.filter (· != p)) A fr h ρ (s.setIfInBounds p true) a' w') a w := by
  obtain ⟨o, ho, hdo, hy⟩ := J.still p hp
  obtain ⟨hlt, hsp⟩ := ready_lt hr
  have hps : p < s.size := by rw [J.ssz]; exact hlt
  have e1 : slotsOf ops p = oSlots ops o := by simp only [slotsOf, ho]
  have e2 : dstOf ops p = o.dst := by simp only [dstOf, ho]
  have hsl : ∀ t ∈ oSlots ops o, t ∉ DS ops Pd := fun t ht hm => by
    obtain ⟨x, hx, hxd⟩ := mem_DS.1 hm
    by_cases hqp : x = p
    · subst hqp
      exact (stOk_dst (J.st x hx) hxd).1 (by rw [e1]; exact ht)
    · have := ((stOk_dst (J.st x hx) hxd).2 p hlt (Ne.symm hqp)).2 (by rw [e1]; exact ht)
      have hs := anc_ok J.cs hr x this
      rw [J.eq x] at hs
      simp [hx] at hs
  obtain ⟨u, hyu, hru⟩ := hy ρ T w a (fun _ => J.rel) (.of_kill J.frm hsl)
  refine YieldsAt.wpOp' ho hyu ⟨J.ok, J.asz, by simp [J.ssz], fun x hx => J.sub x (List.mem_filter.1 hx).1, fun x hx => J.pdA x (List.mem_filter.1 hx).1, fun x hx => J.st x (List.mem_filter.1 hx).1, fun x => ?_, closed_set J.cs hr, J.cA, J.ren, J.keeps, J.kle, J.rel, ?_, fun x hx => J.still x (List.mem_filter.1 hx).1, J.v, J.ag, J.dn, J.qn⟩
  · rw [getD_set_eq hps, J.eq x]
    by_cases hqp : x = p
    · subst hqp; rw [J.pdA x hp]; simp
    · rw [nbeq_ne hqp]
      simp [hqp]
  · have h1 := J.frm.put (v := match o.dst with | some d => look fr d | none => .any) hdo (show VRel ρ _ u by
      cases hod : o.dst with
      | none => simp only [VRel]
      | some d => exact hru d hod)
    refine h1.same fun t => ?_
    rw [look_kill]
    by_cases hm : t ∈ DS ops (Pd.filter (· != p))
    · rw [if_pos hm]; exact .inr rfl
    · rw [if_neg hm]
      refine .inl ?_
      have hnot : ∀ (hne : o.dst ≠ some t), t ∉ DS ops Pd := fun hne hh => by
        obtain ⟨x, hx, hxd⟩ := mem_DS.1 hh
        refine hm (mem_DS.2 ⟨x, List.mem_filter.2 ⟨hx, ?_⟩, hxd⟩)
        have : x ≠ p := fun hqp => hne (by rw [← e2, ← hqp]; exact hxd)
        simpa using this
      cases hod : o.dst with
      | none =>
        simp only [putF]
        rw [look_kill, if_neg (hnot (by rw [hod]; exact fun hh => by cases hh))]
      | some d =>
        rw [look_putF]
        by_cases htd : t = d
        · rw [if_pos htd, htd]
        · rw [if_neg htd, look_kill, if_neg (hnot (by rw [hod]; exact fun hh => htd (Option.some.inj hh).symm))]

/-- What pends stays among what pends, unless it must come ahead. -/
theorem JE.pends {b : Bool} {pl : Pl} {pend Pd np rc : List Nat} {A : Array Bool} {fr : Fr} {h : Heap} {ρ : Ren} {s : Array Bool} {a : Act} {w : World} {i : Nat} (J : JE P n ops q d e c kk fr0 k Q ρ₀ T w₀ b pl pend Pd A fr h ρ s a w) (hr : i ∈ Region.ready .any ops s) (hac : acOk ops i pend np rc = true) :
    (∀ x ∈ Pd, x ∈ np) ∧ (∀ t ∈ slotsOf ops i, t ∉ DS ops Pd) ∧ (∀ d, dstOf ops i = some d → ∀ x ∈ np, d ∉ slotsOf ops x ∧ dstOf ops x ≠ some d) ∧ (∀ x ∈ np, isLoad (opAt ops x) = false ∨ x ∈ rc) := by
  simp only [acOk, Bool.and_eq_true, List.all_eq_true, Bool.or_eq_true, Bool.not_eq_true'] at hac
  obtain ⟨⟨⟨a1, a2⟩, a3⟩, a4⟩ := hac
  have hPnp : ∀ x ∈ Pd, x ∈ np := fun x hx => by
    rcases a1 x (J.sub x hx) with h' | h'
    · have := anc_ok J.cs hr x (by simpa using h')
      rw [J.eq x] at this
      simp [hx] at this
    · simpa using h'
  refine ⟨hPnp, fun t ht hm => ?_, fun d hd x hx => ?_, fun x hx => ?_⟩
  · obtain ⟨x, hx, hxd⟩ := mem_DS.1 hm
    have := a2 t ht
    have h2 : t ∈ DS ops np := mem_DS.2 ⟨x, hPnp x hx, hxd⟩
    simp [h2] at this
  · rw [hd] at a3
    simp only [List.all_eq_true, Bool.and_eq_true, Bool.not_eq_true'] at a3
    obtain ⟨c1, c2⟩ := a3 x hx
    refine ⟨by simpa using c1, fun hh => ?_⟩
    rw [hh] at c2; simp at c2
  · rcases a4 x hx with h' | h'
    · exact .inl h'
    · exact .inr (by simpa using h')
/-- What pends is as it was behind an operation that acts. -/
theorem still_on {i : Nat} {np rc Pd : List Nat} {fr fr' : Fr} {h h' : Heap} (hPnp : ∀ x ∈ Pd, x ∈ np) (hdst : ∀ d, dstOf ops i = some d → ∀ x ∈ np, d ∉ slotsOf ops x ∧ dstOf ops x ≠ some d) (h4 : ∀ x ∈ np, isLoad (opAt ops x) = false ∨ x ∈ rc)
    (b5 : ∀ t, dstOf ops i ≠ some t → look fr' t = look fr t) (b7 : ∀ x ∈ rc, StillAt P n ops x fr' h') (hs : ∀ p ∈ Pd, StillAt P n ops p fr h) : ∀ p ∈ Pd, StillAt P n ops p fr' h' := by
  intro x hx
  have hxnp := hPnp x hx
  rcases h4 x hxnp with hn | hl
  · have hst := (hs x hx).congr (fr' := fr') (fun t ht => b5 t fun hh => (hdst t hh x hxnp).1 ht) (fun d hd => b5 d fun hh => (hdst d hh x hxnp).2 hd)
    obtain ⟨oq, hoq, hdq, hyq⟩ := hst
    refine ⟨oq, hoq, hdq, fun ρ T w a hR hf => hyq ρ T w a (fun hl => ?_) hf⟩
    have : opAt ops x = oq.op := by simp only [opAt, hoq]
    rw [this, hl] at hn
    cases hn
  · exact b7 x hl
theorem JE.act {b : Bool} (hA : b = true → AH P n ops q d e z c) {i : Nat} {np rc : List Nat} {p : Pl} {pend Pd : List Nat} {A : Array Bool} {fr : Fr} {h : Heap} {ρ : Ren} {s : Array Bool} {a : Act} {w : World} (J : JE P n ops q d e c kk fr0 k Q ρ₀ T w₀ b (.ac i np rc p) pend Pd A fr h ρ s a w)
    (hiq : isQ b q i = false) (hr : i ∈ Region.ready .any ops s) (hiP : i ∉ Pd) {Qx : Exit → Act → World → Prop} : wpOp P ops Qx i (fun a' w' => ∃ fr' h' ρ', JE P n ops q d e c kk fr0 k Q ρ₀ T w₀ b p np Pd (A.setIfInBounds i true) fr' h' ρ' (s.setIfInBounds i true) a' w') a w := by
  have hok := J.ok
  simp only [okB, Bool.and_eq_true] at hok
  obtain ⟨⟨⟨⟨hrA, _⟩, _⟩, hac⟩, hokp⟩ := hok
  have hrA : i ∈ Region.ready .any ops A := by simpa using hrA
  have hb : (b && !Nat.beq i q) = b := by
    cases b with
    | false => rfl
    | true => simp only [isQ, Bool.true_and] at hiq; rw [hiq]; rfl
  rw [hb] at hokp
  obtain ⟨hlt, hsi⟩ := ready_lt hr
  have hsi := hsi J.ssz
  have his : i < s.size := by rw [J.ssz]; exact hlt
  have hiA : i < A.size := by rw [J.asz]; exact hlt
  have hv := J.v
  simp only [plP] at hv
  rw [show (b && Nat.beq i q) = false from hiq] at hv
  simp only [cond_false] at hv
  obtain ⟨hPnp, hsl, hdst, h4⟩ := J.pends hr hac
  have hiq' : b = true → i ≠ q := fun hb' hh => by subst hh; rw [hb'] at hiq; simp [isQ] at hiq
  refine wpOp_mono ?_ (hv.ok (Q := Qx) J.rel J.frm hsl)
  rintro a' w' ⟨fr', h', ρ', b1, b2, b3, b4, b5, b6, b7, b8⟩
  refine ⟨fr', h', ρ', hokp, by simp [J.asz], by simp [J.ssz], hPnp, fun x hx => getD_set_true (J.pdA x hx), J.st, fun x => ?_, closed_set J.cs hr, closed_set J.cA hrA, fun j hj => (b1 j (Nat.lt_of_lt_of_le hj J.kle)).trans (J.ren j hj), J.keeps.trans b6, Nat.le_trans J.kle b2, b3, ?_, still_on hPnp hdst h4 b5 b7 J.still, b8, fun t ht => (b5 t (ht i)).trans (J.ag t ht), fun hb' => ?_, fun hb' => ?_⟩
  · rw [getD_set_eq his, getD_set_eq hiA, J.eq x]
    by_cases hqj : x = i
    · subst hqj; simp [hiP]
    · rw [nbeq_ne hqj]; simp
  · refine b4.same fun t => ?_
    rw [look_kill, look_kill]
    by_cases hm : t ∈ DS ops Pd
    · rw [if_pos hm]; exact .inr rfl
    · rw [if_neg hm, if_neg (fun hh => hm (List.mem_filter.1 hh).1)]; exact .inl rfl
  · rw [b5 d ((hA hb').one i (hiq' hb'))]; exact J.dn hb'
  · rw [getD_set_eq hiA, J.qn hb', nbeq_ne (Ne.symm (hiq' hb'))]; rfl

/-- The variable made, in its turn. -/
theorem frel_put {ρ ρ' : Ren} {fr : Fr} {l : List Nat} {a : Act} {d : Nat} {v : AV} {u : Value} (hf : FrRel ρ n (killF fr l) a) (hle : ρ.le ρ') (hd : d < n) (hv : VRel ρ' v u) : FrRel ρ' n (killF (putF fr (some d) v) l) (a.put (some d) u) := by
  have h1 := (hf.mono hle).put (d := some d) (v := v) (u := u) (nblt_iff.2 hd) hv
  refine h1.same fun t => ?_
  rw [look_kill, look_putF, look_putF, look_kill]
  by_cases hm : t ∈ l
  · rw [if_pos hm]; exact .inr rfl
  · rw [if_neg hm]
    by_cases ht : t = d
    · rw [if_pos ht, if_pos ht]; exact .inl rfl
    · rw [if_neg ht, if_neg ht, if_neg hm]; exact .inl rfl
theorem alloc_runs (hA : AH P n ops q d e z c) {Qx : Exit → Act → World → Prop} {a : Act} {w : World} {K : Act → World → Prop} (hK : K (a.put (some d) (.pointer (some ⟨w.heap.size, 0, none⟩))) (w.alloc (.cells z e))) : wpOp P ops Qx q K a w := by
  obtain ⟨o, ho, hop, hg, hd⟩ := hA.op
  refine wpOp_runs ho (u := .pointer (some ⟨w.heap.size, 0, none⟩)) (w' := w.alloc (.cells z e)) ?_ ?_ (by rw [hd]; exact hK)
  · simp [Region.wanted, hg]
  · refine .inl ?_
    obtain ⟨dst, op, ty, pos, after, guard⟩ := o
    simp only at hop
    subst hop
    exact run_next (hA.run w)

theorem q_ready (hA : AH P n ops q d e z c) {s : Array Bool} (hsz : s.size = ops.size) (hq : s.getD q false = false) : q ∈ Region.ready .any ops s := by
  obtain ⟨o, ho, _⟩ := hA.op
  exact ready_of hsz ho hq fun j hj => by rw [hA.free j] at hj; cases hj
/-- Behind the making of the variable: the state, however it came about. -/
theorem JE.behind (hA : AH P n ops q d e z c) {np rc : List Nat} {p : Pl} {pend Pd : List Nat} {A : Array Bool} {fr : Fr} {h : Heap} {ρ ρ' : Ren} {s : Array Bool} {a a' : Act} {w w' : World} {T' : Nat → Prop} {k' : Nat} {ρ₁ : Ren} {w₁ : World}
    (J : JE P n ops q d e c kk fr0 k' Q ρ₁ T' w₁ true (.ac q np rc p) pend Pd A fr h ρ s a w) (hle : ρ.le ρ') (hren : ∀ i, i < k → ρ' i = ρ₀ i) (hk : k ≤ h.next) (hkeep : Keeps T w₀ w')
    (hrel : Rel (h.push (.cells e c)) ρ' T w') (hf : FrRel ρ' n (killF (putF fr (some d) (.ptr h.next 0)) (DS ops Pd)) a') :
    JE P n ops q d e c kk fr0 k Q ρ₀ T w₀ false p np Pd (A.setIfInBounds q true) (putF fr (some d) (.ptr h.next 0)) (h.push (.cells e c)) ρ' (s.setIfInBounds q true) a' w' := by
  have hok := J.ok
  simp only [okB, Bool.and_eq_true] at hok
  obtain ⟨⟨⟨⟨hrA, _⟩, _⟩, hac⟩, hokp⟩ := hok
  have hrA : q ∈ Region.ready .any ops A := by simpa using hrA
  rw [show (true && !Nat.beq q q) = false by rw [Nat.beq_refl]; rfl] at hokp
  have hAq := J.qn rfl
  have hqP : q ∉ Pd := fun hh => by rw [J.pdA q hh] at hAq; cases hAq
  have hsq : s.getD q false = false := by rw [J.eq q, hAq]; rfl
  have hr : q ∈ Region.ready .any ops s := q_ready hA J.ssz hsq
  obtain ⟨hlt, _⟩ := ready_lt hr
  have hqs : q < s.size := by rw [J.ssz]; exact hlt
  have hqA : q < A.size := by rw [J.asz]; exact hlt
  obtain ⟨o, ho, hop, hg, hd⟩ := hA.op
  have hdo : dstOf ops q = some d := by simp only [dstOf, ho, hd]
  have hv := J.v
  simp only [plP] at hv
  rw [show (true && Nat.beq q q) = true by rw [Nat.beq_refl]; rfl] at hv
  simp only [cond_true] at hv
  obtain ⟨_, b7, b8⟩ := hv
  obtain ⟨hPnp, hsl, hdst, h4⟩ := J.pends hr hac
  have b5 : ∀ t, dstOf ops q ≠ some t → look (putF fr (some d) (.ptr h.next 0)) t = look fr t := fun t ht => by
    rw [look_putF, if_neg (fun hh => ht (by rw [hdo, hh]))]
  refine ⟨hokp, by simp [J.asz], by simp [J.ssz], hPnp, fun x hx => getD_set_true (J.pdA x hx), J.st, fun x => ?_, closed_set J.cs hr, closed_set J.cA hrA, hren, hkeep, by simp; omega, hrel, hf, still_on hPnp hdst h4 b5 b7 J.still, b8, fun t ht => (b5 t (ht q)).trans (J.ag t ht), (fun hb => by cases hb), (fun hb => by cases hb)⟩
  rw [getD_set_eq hqs, getD_set_eq hqA, J.eq x]
  by_cases hqj : x = q
  · subst hqj; simp [hqP]
  · rw [nbeq_ne hqj]; simp
theorem JE.actQ (hA : AH P n ops q d e z c) {np rc : List Nat} {p : Pl} {pend Pd : List Nat} {A : Array Bool} {fr : Fr} {h : Heap} {ρ : Ren} {s : Array Bool} {a : Act} {w : World}
    (J : JE P n ops q d e c kk fr0 k Q ρ₀ T w₀ true (.ac q np rc p) pend Pd A fr h ρ s a w) {Qx : Exit → Act → World → Prop} :
    wpOp P ops Qx q (fun a' w' => ∃ fr' h' ρ', JE P n ops q d e c kk fr0 k Q ρ₀ T w₀ false p np Pd (A.setIfInBounds q true) fr' h' ρ' (s.setIfInBounds q true) a' w') a w := by
  obtain ⟨ρ', g1, g2, g3, g4, g5⟩ := J.rel.push_cells (e := e) (c := c) (arr := z) hA.size (hA.rel ρ)
  refine alloc_runs hA ⟨_, _, ρ', J.behind hA g1 (fun i hi => (g3 i (Nat.lt_of_lt_of_le hi J.kle)).trans (J.ren i hi)) J.kle (J.keeps.trans g5) g4 (frel_put J.frm g1 hA.lt ?_)⟩
  simp only [VRel]
  exact ⟨_, g2, rfl⟩

/-- The variable is made, ahead of its turn: block b. -/
structure JF (P : Program) (n : Nat) (ops : Array Oper) (q d : Nat) (e : TypeId) (z : Array Value) (c : Cs) (kk : List Nat) (fr0 : Fr) (k : Nat) (Q : Fr → Heap → Prop) (ρ₀ : Ren) (T : Nat → Prop) (w₀ : World) (pl : Pl) (pend Pd : List Nat) (A : Array Bool) (fr : Fr) (h : Heap) (ρ : Ren) (s : Array Bool) (a : Act) (w : World) (b k1 : Nat) (ρ1 : Ren) (w1 : World) : Prop where
  J : JE P n ops q d e c kk fr0 k1 Q ρ1 (fun x => T x ∧ x ≠ b) w1 true pl pend Pd A fr h ρ s a w
  slot : a.tmps.getD d undef = .pointer (some ⟨b, 0, none⟩)
  blk : w1.heap[b]? = some (.cells z e (0, 0))
  kk1 : ∀ i ∈ kk, i < k1
  k1k : k ≤ k1
  ren : ∀ i, i < k → ρ1 i = ρ₀ i
  keeps : Keeps T w₀ w1
  Tb : T b
  lt : b < w1.heap.size
  out : ∀ i ∈ kk, ∀ a, ρ1 i = some a → a.blk ≠ b

theorem JE.early (hA : AH P n ops q d e z c) (hkk : ∀ i ∈ kk, i < k ∧ ∀ a, ρ₀ i = some a → a.blk < w₀.heap.size) {pl : Pl} {pend Pd : List Nat} {A : Array Bool} {fr : Fr} {h : Heap} {ρ : Ren} {s : Array Bool} {a : Act} {w : World}
    (J : JE P n ops q d e c kk fr0 k Q ρ₀ T w₀ true pl pend Pd A fr h ρ s a w) {Qx : Exit → Act → World → Prop} :
    wpOp P ops Qx q (fun a' w' => ∃ b k1 ρ1 w1, JF P n ops q d e z c kk fr0 k Q ρ₀ T w₀ pl pend Pd A fr h ρ s a' w' b k1 ρ1 w1) a w := by
  have hT : ∀ x, w.heap.size ≤ x → T x := by obtain ⟨_, _, _, _, _, h5⟩ := J.rel; exact h5
  refine alloc_runs hA ⟨w.heap.size, h.next, ρ, w.alloc (.cells z e), ⟨?_, ?_, ?_, fun i hi => Nat.lt_of_lt_of_le (hkk i hi).1 J.kle, J.kle, J.ren, J.keeps.trans (Keeps.alloc _ hT), hT _ (Nat.le_refl _), by simp, fun i hi a ha hb => ?_⟩⟩
  · refine ⟨J.ok, J.asz, J.ssz, J.sub, J.pdA, J.st, J.eq, J.cs, J.cA, fun _ _ => rfl, Keeps.refl _ _, Nat.le_refl _, ?_, ?_, J.still, J.v, J.ag, J.dn, J.qn⟩
    · obtain ⟨S, h1, h2, h3, h4, h5⟩ := J.rel
      have hsame : ∀ x, x < w.heap.size → (w.alloc (.cells z e)).heap[x]? = w.heap[x]? := fun x hx => by
        show (w.heap.push _)[x]? = _
        rw [Array.getElem?_push_lt hx, Array.getElem?_eq_getElem hx]
      refine ⟨S, fun i o hi => ?_, h2, fun i o x hi hx => ?_, h4, fun x hx => ?_⟩
      · obtain ⟨a1, ha, ho⟩ := h1 i o hi
        refine ⟨a1, ha, ?_⟩
        have st := ho.stays (w' := w.alloc (.cells z e)) fun x hx => by
          refine hsame x ?_
          rcases hx with hx | hx
          · exact (h3 i o x hi hx).2
          · rcases Nat.lt_or_ge x w.heap.size with h' | h'
            · exact h'
            · exact (hx (h5 x h')).elim
        cases o with
        | ro c1 =>
          rcases st with h0 | ⟨hT1, r⟩
          · exact .inl h0
          · exact .inr ⟨fun hh => hT1 hh.1, r⟩
        | _ => exact st
      · obtain ⟨g1, g2⟩ := h3 i o x hi hx
        refine ⟨⟨g1, by omega⟩, ?_⟩
        simp; omega
      · have : w.heap.size + 1 ≤ x := by simpa using hx
        exact ⟨h5 x (by omega), by omega⟩
    · have h1 := J.frm.put (d := some d) (v := .any) (u := .pointer (some ⟨w.heap.size, 0, none⟩)) (nblt_iff.2 hA.lt) (by simp only [VRel])
      refine h1.same fun t => ?_
      rw [look_putF]
      by_cases ht : t = d
      · rw [if_pos ht, look_kill]
        by_cases hm : t ∈ DS ops Pd
        · rw [if_pos hm]; exact .inl rfl
        · rw [if_neg hm, ht]; exact .inl (J.dn rfl)
      · rw [if_neg ht]; exact .inl rfl
  · have hlt : d < a.tmps.size := by rw [J.frm.size]; exact hA.lt
    simp [Act.put, hlt]
  · show (w.heap.push _)[w.heap.size]? = _
    simp
  · have h1 := (hkk i hi).2 a (by rw [← J.ren i (hkk i hi).1]; exact ha)
    have h2 := J.keeps.size
    omega

/-- A block that lies beside all objects becomes one. -/
theorem Rel.claim {h : Heap} {ρ : Ren} {T : Nat → Prop} {w : World} {b : Nat} {e : TypeId} {z : Array Value} {c : Cs} (hR : Rel h ρ (fun x => T x ∧ x ≠ b) w) (hb : w.heap[b]? = some (.cells z e (0, 0))) (Tb : T b) (hsz : z.size = c.size) (hc : ∀ ρ, CRel ρ c z 0)
    (hro : ∀ i cc a, h.get i = some (.ro cc) → ρ i = some a → cc.size = 0 ∨ a.blk ≠ b) : ∃ ρ', ρ.le ρ' ∧ ρ' h.next = some ⟨b, 0, c.size⟩ ∧ (∀ i, i < h.next → ρ' i = ρ i) ∧ Rel (h.push (.cells e c)) ρ' T w := by
  obtain ⟨S, h1, h2, h3, h4, h5⟩ := hR
  have hlt : b < w.heap.size := (Array.getElem?_eq_some_iff.1 hb).1
  let ρ' : Ren := fun i => if i = h.next then some ⟨b, 0, c.size⟩ else ρ i
  have hle : ρ.le ρ' := fun i a ha => by
    by_cases hi : i = h.next
    · rw [hi, h4 h.next (Nat.le_refl _)] at ha; cases ha
    · simp [ρ', hi, ha]
  refine ⟨ρ', hle, by simp [ρ'], fun i hi => by simp [ρ', Nat.ne_of_lt hi], fun i => if i = h.next then (fun x => x = b) else S i, fun i x hi => ?_, fun i j x y u hi hj hij hSi hSj => ?_, fun i x u hi hSi => ?_, fun i hi => ?_, fun u hu => ?_⟩
  · rw [Heap.get_push] at hi
    by_cases hin : i = h.next
    · rw [if_pos hin] at hi; cases hi
      refine ⟨⟨b, 0, c.size⟩, by simp [ρ', hin], ?_⟩
      simp only [hin, if_true]
      exact ⟨rfl, rfl, z, hb, hsz, rfl, hc _⟩
    · rw [if_neg hin] at hi
      obtain ⟨a, ha, hx⟩ := h1 i x hi
      refine ⟨a, hle _ _ ha, ?_⟩
      simp only [if_neg hin]
      have hx := hx.mono hle
      cases x with
      | ro cc =>
        rcases hro i cc a hi ha with h0 | h0
        · exact .inl h0
        · rcases hx with hx | ⟨hT, r⟩
          · exact .inl hx
          · exact .inr ⟨fun hh => hT ⟨hh, h0⟩, r⟩
      | _ => exact hx
  · rw [Heap.get_push] at hi hj
    by_cases hin : i = h.next
    · have hjn : ¬ j = h.next := fun hh => hij (hin.trans hh.symm)
      rw [if_neg hjn] at hj
      simp only [if_pos hin] at hSi
      simp only [if_neg hjn] at hSj
      exact (h3 j y u hj hSj).1.2 hSi
    · rw [if_neg hin] at hi
      simp only [if_neg hin] at hSi
      by_cases hjn : j = h.next
      · simp only [if_pos hjn] at hSj
        exact (h3 i x u hi hSi).1.2 hSj
      · rw [if_neg hjn] at hj
        simp only [if_neg hjn] at hSj
        exact h2 i j x y u hi hj hij hSi hSj
  · rw [Heap.get_push] at hi
    by_cases hin : i = h.next
    · simp only [if_pos hin] at hSi
      rw [hSi]; exact ⟨Tb, hlt⟩
    · rw [if_neg hin] at hi
      simp only [if_neg hin] at hSi
      obtain ⟨g1, g2⟩ := h3 i x u hi hSi
      exact ⟨g1.1, g2⟩
  · have hi' : h.next + 1 ≤ i := by simpa using hi
    simp only [ρ']
    rw [if_neg (by omega)]
    exact h4 i (by omega)
  · exact (h5 u hu).1
theorem Keeps.weaken {T T' : Nat → Prop} {w w' : World} (h : Keeps T' w w') (hT : ∀ x, T' x → T x) : Keeps T w w' := ⟨h.size, h.os, h.tape, h.output, fun x hx => h.block x fun hh => hx (hT x hh)⟩

theorem JF.turn (hA : AH P n ops q d e z c) {np rc : List Nat} {p : Pl} {pend Pd : List Nat} {A : Array Bool} {fr : Fr} {h : Heap} {ρ : Ren} {s : Array Bool} {a : Act} {w : World} {b k1 : Nat} {ρ1 : Ren} {w1 : World}
    (F : JF P n ops q d e z c kk fr0 k Q ρ₀ T w₀ (.ac q np rc p) pend Pd A fr h ρ s a w b k1 ρ1 w1) :
    ∃ fr' h' ρ', JE P n ops q d e c kk fr0 k Q ρ₀ T w₀ false p np Pd (A.setIfInBounds q true) fr' h' ρ' (s.setIfInBounds q true) a w := by
  have J := F.J
  have hv := J.v
  simp only [plP] at hv
  rw [show (true && Nat.beq q q) = true by rw [Nat.beq_refl]; rfl] at hv
  simp only [cond_true] at hv
  have hblk : w.heap[b]? = some (.cells z e (0, 0)) := by rw [J.keeps.block b (fun hh => hh.2 rfl)]; exact F.blk
  obtain ⟨ρ', g1, g2, g3, g4⟩ := Rel.claim J.rel hblk F.Tb hA.size hA.rel (fun i cc a hi ha => by
    rcases roLow_get hv.1 hi with h0 | h0
    · exact .inl h0
    · exact .inr (F.out i h0 a (by rw [← J.ren i (F.kk1 i h0)]; exact ha)))
  have hok := J.ok
  simp only [okB, Bool.and_eq_true] at hok
  obtain ⟨⟨⟨⟨hrA, _⟩, _⟩, hac⟩, hokp⟩ := hok
  have hAq := J.qn rfl
  have hsq : s.getD q false = false := by rw [J.eq q, hAq]; rfl
  obtain ⟨hPnp, hsl, hdst, h4⟩ := J.pends (q_ready hA J.ssz hsq) hac
  have hdo : dstOf ops q = some d := by obtain ⟨o, ho, _, _, hd⟩ := hA.op; simp only [dstOf, ho, hd]
  refine ⟨_, _, ρ', J.behind hA g1 (fun i hi => ?_) (Nat.le_trans F.k1k J.kle) (F.keeps.trans (J.keeps.weaken fun x hx => hx.1)) g4 ⟨J.frm.size, J.frm.defers, fun t => ?_⟩⟩
  · rw [g3 i (Nat.lt_of_lt_of_le hi (Nat.le_trans F.k1k J.kle)), J.ren i (Nat.lt_of_lt_of_le hi F.k1k)]; exact F.ren i hi
  · rw [look_kill]
    by_cases hm : t ∈ DS ops Pd
    · rw [if_pos hm]; simp only [VRel]
    · rw [if_neg hm, look_putF]
      by_cases ht : t = d
      · rw [if_pos ht, ht, F.slot]
        simp only [VRel]
        exact ⟨_, g2, rfl⟩
      · rw [if_neg ht]
        have := J.frm.vals t
        rw [look_kill, if_neg hm] at this
        exact VRel.mono g1 _ _ this
theorem set_comm {s : Array Bool} {i j : Nat} : (s.setIfInBounds i true).setIfInBounds j true = (s.setIfInBounds j true).setIfInBounds i true := by
  by_cases h : i = j
  · subst h; rfl
  · exact Array.setIfInBounds_comm _ _ h
theorem JF.step {pl : Pl} {pend Pd : List Nat} {A : Array Bool} {fr : Fr} {h : Heap} {ρ : Ren} {s : Array Bool} {a : Act} {w : World} {b k1 : Nat} {ρ1 : Ren} {w1 : World} (hA : AH P n ops q d e z c)
    (F : JF P n ops q d e z c kk fr0 k Q ρ₀ T w₀ pl pend Pd A fr h ρ s a w b k1 ρ1 w1) {i : Nat} (hi : i ≠ q) (hio : i < ops.size) {Qx : Exit → Act → World → Prop} {pl' : Pl} {pend' Pd' : List Nat} {A' : Array Bool}
    (hw : wpOp P ops Qx i (fun a' w' => ∃ fr' h' ρ', JE P n ops q d e c kk fr0 k1 Q ρ1 (fun x => T x ∧ x ≠ b) w1 true pl' pend' Pd' A' fr' h' ρ' (s.setIfInBounds i true) a' w') a w) :
    wpOp P ops Qx i (fun a' w' => ∃ fr' h' ρ', JF P n ops q d e z c kk fr0 k Q ρ₀ T w₀ pl' pend' Pd' A' fr' h' ρ' (s.setIfInBounds i true) a' w' b k1 ρ1 w1) a w := by
  have ho : ops[i]? = some ops[i] := by simp [hio]
  refine wpOp_mono ?_ (wpOp_slots ho hw)
  rintro a' w' ⟨⟨fr', h', ρ', J⟩, hsl⟩
  refine ⟨fr', h', ρ', J, ?_, F.blk, F.kk1, F.k1k, F.ren, F.keeps, F.Tb, F.lt, F.out⟩
  rw [hsl d (fun hh => hA.one i hi (by simp only [dstOf, ho, hh]))]
  exact F.slot

theorem JE.readyA {b : Bool} {pl : Pl} {pend Pd : List Nat} {A : Array Bool} {fr : Fr} {h : Heap} {ρ : Ren} {s : Array Bool} {a : Act} {w : World} (J : JE P n ops q d e c kk fr0 k Q ρ₀ T w₀ b pl pend Pd A fr h ρ s a w) {j : Nat} (hj : j ∈ Region.ready .any ops s) (hjP : j ∉ Pd) : j ∈ Region.ready .any ops A := by
  obtain ⟨hlt, hsj⟩ := ready_lt hj
  have hsj := hsj J.ssz
  have hAj : A.getD j false = false := by
    have := J.eq j
    rw [hsj] at this
    have hc : Pd.contains j = false := by simpa using hjP
    rw [hc] at this
    simpa using this.symm
  obtain ⟨_, o, ho, hall⟩ := mem_ready.1 hj
  refine ready_of J.asz ho hAj fun x hx => ?_
  simp only [hasEdge, ho, List.any_eq_true, Bool.and_eq_true] at hx
  obtain ⟨ed, he, hb, hx⟩ := hx
  have := hall ed (by simpa using he) hb
  rw [Nat.eq_of_beq_eq_true hx, J.eq x] at this
  simp only [Bool.and_eq_true] at this
  exact this.1
theorem ready_back {s : Array Bool} {j : Nat} (hsz : s.size = ops.size) (hjq : j ≠ q) (hqlt : q < ops.size) (hj : j ∈ Region.ready .any ops (s.setIfInBounds q true)) (hno : hasEdge ops j q = false) : j ∈ Region.ready .any ops s := by
  obtain ⟨hlt, hsj⟩ := ready_lt hj
  have hsj := hsj (by simp [hsz])
  have hqs : q < s.size := by rw [hsz]; exact hqlt
  obtain ⟨_, o, ho, hall⟩ := mem_ready.1 hj
  rw [getD_set_eq hqs, nbeq_ne hjq, Bool.false_or] at hsj
  refine ready_of hsz ho hsj fun x hx => ?_
  have hxq : x ≠ q := fun hh => by rw [hh, hno] at hx; cases hx
  simp only [hasEdge, ho, List.any_eq_true, Bool.and_eq_true] at hx
  obtain ⟨ed, he, hb, hx⟩ := hx
  have := hall ed (by simpa using he) hb
  rw [Nat.eq_of_beq_eq_true hx, getD_set_eq hqs, nbeq_ne hxq, Bool.false_or] at this
  exact this
theorem no_edge {s : Array Bool} {j : Nat} (hj : j ∈ Region.ready .any ops s) (hq : s.getD q false = false) : hasEdge ops j q = false := by
  cases hx : hasEdge ops j q with
  | false => rfl
  | true =>
    obtain ⟨_, o, ho, hall⟩ := mem_ready.1 hj
    simp only [hasEdge, ho, List.any_eq_true, Bool.and_eq_true] at hx
    obtain ⟨ed, he, hb, hx⟩ := hx
    have := hall ed (by simpa using he) hb
    rw [Nat.eq_of_beq_eq_true hx, hq] at this
    cases this
/-- What pends comes up. -/
theorem JE.comes (hdn : edgesDown ops = true) {b : Bool} {pl : Pl} {pend Pd : List Nat} {A : Array Bool} {fr : Fr} {h : Heap} {ρ : Ren} {s : Array Bool} {a : Act} {w : World} (J : JE P n ops q d e c kk fr0 k Q ρ₀ T w₀ b pl pend Pd A fr h ρ s a w) (hr : ∀ p ∈ Pd, p ∉ Region.ready .any ops s) : Pd = [] := by
  have hinA : ∀ x, A.getD x false = true → ∃ o, ops[x]? = some o := fun x hx => by
    have : x < A.size := by
      rcases Nat.lt_or_ge x A.size with h' | h'
      · exact h'
      · simp [Array.getElem?_eq_none h'] at hx
    rw [J.asz] at this
    exact ⟨ops[x], by simp [this]⟩
  have hlow : ∀ x j, hasEdge ops x j = true → j < x := fun x j hx => by
    unfold hasEdge at hx
    split at hx
    · rename_i o ho
      have hlt := (Array.getElem?_eq_some_iff.1 ho).1
      simp only [edgesDown, List.all_eq_true, List.mem_range] at hdn
      have := hdn x hlt
      simp only [ho, List.all_eq_true, Bool.or_eq_true, Bool.not_eq_true'] at this
      simp only [List.any_eq_true, Bool.and_eq_true] at hx
      obtain ⟨ed, he, hb, hj⟩ := hx
      rcases this ed he with h' | h'
      · rw [hb] at h'; cases h'
      · rw [← Nat.eq_of_beq_eq_true hj]; exact nblt_iff.1 h'
    · cases hx
  have hmin : ∀ m x, x ≤ m → x ∈ Pd → False := by
    intro m
    induction m using Nat.strongRecOn with
    | _ m ih =>
      intro x hxm hx
      obtain ⟨o, ho⟩ := hinA x (J.pdA x hx)
      refine hr x hx (ready_of J.ssz ho (by rw [J.eq x]; simp [hx]) fun j hj => ?_)
      have hjq := hlow x j hj
      have hjA := J.cA x j (J.pdA x hx) hj
      rw [J.eq j, hjA]
      have : j ∉ Pd := fun hh => ih j (by omega) j (Nat.le_refl _) hh
      simp [this]
  cases Pd with
  | nil => rfl
  | cons x l => exact (hmin x x (Nat.le_refl _) (by simp)).elim
theorem JE.sA {b : Bool} {pl : Pl} {pend : List Nat} {A : Array Bool} {fr : Fr} {h : Heap} {ρ : Ren} {s : Array Bool} {a : Act} {w : World} (J : JE P n ops q d e c kk fr0 k Q ρ₀ T w₀ b pl pend [] A fr h ρ s a w) : s = A := ext_of_getD (by rw [J.ssz, J.asz]) fun i => by rw [J.eq i]; simp
theorem JE.fin (hdn : edgesDown ops = true) {b : Bool} {pl : Pl} {pend Pd : List Nat} {A : Array Bool} {fr : Fr} {h : Heap} {ρ : Ren} {s : Array Bool} {a : Act} {w : World} (J : JE P n ops q d e c kk fr0 k Q ρ₀ T w₀ b pl pend Pd A fr h ρ s a w) (hnorm : ∀ i p, pl ≠ .st i p)
    (hr : Region.ready .any ops s = []) : After k n ρ₀ T w₀ (fun fr h => (∀ t, (∀ i, dstOf ops i ≠ some t) → look fr t = look fr0 t) ∧ Q fr h) a w := by
  have hPd := J.comes hdn (fun p _ hp => by rw [hr] at hp; cases hp)
  subst hPd
  have hsA := J.sA
  subst hsA
  have hok := J.ok
  cases pl with
  | nil => exact ⟨ρ, fr, h, J.ren, ⟨J.kle, J.rel, J.frm⟩, J.keeps, J.ag, J.v⟩
  | st i p => exact (hnorm i p rfl).elim
  | ac i np rc p =>
    simp only [okB, Bool.and_eq_true] at hok
    have := hok.1.1.1.1
    rw [hr] at this; cases this
  | alt p q => simp [okB] at hok
theorem JE.norm : ∀ {b : Bool} (_hA : b = true → AH P n ops q d e z c) {pl : Pl} {pend Pd : List Nat} {A : Array Bool} {fr : Fr} {h : Heap} {ρ : Ren} {s : Array Bool} {a : Act} {w : World}, JE P n ops q d e c kk fr0 k Q ρ₀ T w₀ b pl pend Pd A fr h ρ s a w →
    ∃ pl' pend' Pd' A' fr', (∀ i p, pl' ≠ .st i p) ∧ JE P n ops q d e c kk fr0 k Q ρ₀ T w₀ b pl' pend' Pd' A' fr' h ρ s a w
  | b, hA, .st i p, pend, Pd, A, fr, h, ρ, s, a, w, J => by
    obtain ⟨fr', J'⟩ := J.peek hA
    exact JE.norm hA J'
  | b, _, .nil, pend, Pd, A, fr, h, ρ, s, a, w, J => ⟨_, _, _, _, _, (fun i p hh => by cases hh), J⟩
  | b, _, .ac .., pend, Pd, A, fr, h, ρ, s, a, w, J => ⟨_, _, _, _, _, (fun i p hh => by cases hh), J⟩
  | b, _, .alt .., pend, Pd, A, fr, h, ρ, s, a, w, J => ⟨_, _, _, _, _, (fun i p hh => by cases hh), J⟩

/-- Forgetting what was said of a state. -/
abbrev endQ (ops : Array Oper) (fr0 : Fr) (Q : Fr → Heap → Prop) : Fr → Heap → Prop := fun fr h => (∀ t, (∀ i, dstOf ops i ≠ some t) → look fr t = look fr0 t) ∧ Q fr h
def cnt (ops : Array Oper) (s : Array Bool) : Nat := (List.range ops.size).countP (fun i => !s.getD i false)
theorem cnt_set {s : Array Bool} {j m : Nat} (hsz : s.size = ops.size) (hj : j ∈ Region.ready .any ops s) (hm : cnt ops s ≤ m + 1) : cnt ops (s.setIfInBounds j true) ≤ m := by
  obtain ⟨hlt, hsj⟩ := ready_lt hj
  have hsj := hsj hsz
  have hjs : j < s.size := by rw [hsz]; exact hlt
  have := cnt_lt (p := fun i => !(s.setIfInBounds j true).getD i false) (q := fun i => !s.getD i false) (x := j) (List.range ops.size) (fun y _ hy => by
    simp only [getD_set_eq hjs, Bool.not_eq_true', Bool.or_eq_false_iff] at hy ⊢; exact hy.2) (by simpa using hlt) (by simp only [hsj]; rfl) (by simp only [getD_set_eq hjs, Nat.beq_refl]; rfl)
  unfold cnt at hm ⊢
  omega
theorem cnt_zero {s : Array Bool} (hsz : s.size = ops.size) (hm : cnt ops s ≤ 0) : Region.ready .any ops s = [] := by
  cases hr : Region.ready .any ops s with
  | nil => rfl
  | cons x l =>
    exfalso
    obtain ⟨hlt, hx⟩ := ready_lt (ops := ops) (s := s) (q := x) (by rw [hr]; simp)
    have : 0 < cnt ops s := List.countP_pos_iff.2 ⟨x, by simpa using hlt, by simp only [hx hsz]; rfl⟩
    omega

section
variable (hA : AH P n ops q d e z c) (hdn : edgesDown ops = true) (hkk : ∀ i ∈ kk, i < k ∧ ∀ a, ρ₀ i = some a → a.blk < w₀.heap.size)
include hA hdn hkk
theorem wpAny_E : ∀ (m : Nat),
    (∀ {b : Bool} {pl : Pl} {pend Pd : List Nat} {A : Array Bool} {fr : Fr} {h : Heap} {ρ : Ren} {s : Array Bool} {a : Act} {w : World}, JE P n ops q d e c kk fr0 k Q ρ₀ T w₀ b pl pend Pd A fr h ρ s a w → cnt ops s ≤ m →
      wpAny P .any ops (rpost k n ρ₀ T w₀ (endQ ops fr0 Q)) m s a w) ∧
    (∀ {pl : Pl} {pend Pd : List Nat} {A : Array Bool} {fr : Fr} {h : Heap} {ρ : Ren} {s : Array Bool} {a : Act} {w : World} {b k1 : Nat} {ρ1 : Ren} {w1 : World}, JF P n ops q d e z c kk fr0 k Q ρ₀ T w₀ pl pend Pd A fr h ρ s a w b k1 ρ1 w1 → cnt ops (s.setIfInBounds q true) ≤ m →
      wpAny P .any ops (rpost k n ρ₀ T w₀ (endQ ops fr0 Q)) m (s.setIfInBounds q true) a w) := by
  have hqo : q < ops.size := by obtain ⟨o, ho, _⟩ := hA.op; exact (Array.getElem?_eq_some_iff.1 ho).1
  intro m
  induction m with
  | zero =>
    have part1 : ∀ {b : Bool} {pl : Pl} {pend Pd : List Nat} {A : Array Bool} {fr : Fr} {h : Heap} {ρ : Ren} {s : Array Bool} {a : Act} {w : World}, JE P n ops q d e c kk fr0 k Q ρ₀ T w₀ b pl pend Pd A fr h ρ s a w → cnt ops s ≤ 0 → wpAny P .any ops (rpost k n ρ₀ T w₀ (endQ ops fr0 Q)) 0 s a w := fun J hm => by
      obtain ⟨pl', pend', Pd', A', fr', hn, J'⟩ := JE.norm (fun _ => hA) J
      have hr := cnt_zero J.ssz hm
      exact ⟨hr, J'.fin hdn hn hr⟩
    refine ⟨part1, fun F hm => ?_⟩
    have hr := cnt_zero (ops := ops) (by simp [F.J.ssz]) hm
    obtain ⟨pl', pend', Pd', A', fr', hn, J'⟩ := JE.norm (fun _ => hA) F.J
    have F' : JF P n ops q d e z c kk fr0 k Q ρ₀ T w₀ pl' pend' Pd' A' fr' _ _ _ _ _ _ _ _ _ := ⟨J', F.slot, F.blk, F.kk1, F.k1k, F.ren, F.keeps, F.Tb, F.lt, F.out⟩
    have hok := J'.ok
    cases pl' with
    | st i p => exact (hn i p rfl).elim
    | alt x y => simp [okB] at hok
    | nil =>
      simp only [okB, List.isEmpty_iff] at hok
      have := q_ready hA J'.asz (J'.qn rfl)
      rw [hok] at this; cases this
    | ac i np rc p =>
      by_cases hiq : i = q
      · subst hiq
        obtain ⟨_, _, _, J2⟩ := F'.turn hA
        exact part1 J2 hm
      · exfalso
        simp only [okB, Bool.and_eq_true] at hok
        have hiA : i ∈ Region.ready .any ops A' := by simpa using hok.1.1.1.1
        have hPd := J'.comes hdn (fun p hp hpr => by
          have hpq : p ≠ q := fun hh => by have h1 := J'.pdA p hp; rw [hh, J'.qn rfl] at h1; cases h1
          have := ready_mono (i := q) hpr hpq
          rw [hr] at this; cases this)
        subst hPd
        have hsA := J'.sA
        subst hsA
        have := ready_mono (i := q) hiA hiq
        rw [hr] at this; cases this
  | succ m ih =>
    have part1 : ∀ {b : Bool} {pl : Pl} {pend Pd : List Nat} {A : Array Bool} {fr : Fr} {h : Heap} {ρ : Ren} {s : Array Bool} {a : Act} {w : World}, JE P n ops q d e c kk fr0 k Q ρ₀ T w₀ b pl pend Pd A fr h ρ s a w → cnt ops s ≤ m + 1 → wpAny P .any ops (rpost k n ρ₀ T w₀ (endQ ops fr0 Q)) (m + 1) s a w := by
      intro b pl pend Pd A fr h ρ s a w J hm
      obtain ⟨pl', pend', Pd', A', fr', hn, J'⟩ := JE.norm (fun _ => hA) J
      refine ⟨fun hr => J'.fin hdn hn hr, fun j hj => ?_⟩
      have hcnt := cnt_set J.ssz hj hm
      by_cases hjp : j ∈ Pd'
      · exact wpOp_mono (fun a' w' J2 => ih.1 J2 hcnt) (J'.done hjp hj)
      · have hjA := J'.readyA hj hjp
        have hok := J'.ok
        cases pl' with
        | st i p => exact (hn i p rfl).elim
        | alt x y => simp [okB] at hok
        | nil =>
          simp only [okB, List.isEmpty_iff] at hok
          rw [hok] at hjA; cases hjA
        | ac i np rc p =>
          simp only [okB, Bool.and_eq_true, List.all_eq_true, Bool.or_eq_true] at hok
          have hcase := hok.1.1.1.2 j hjA
          cases hiq : isQ b q i with
          | true =>
            simp only [isQ, Bool.and_eq_true] at hiq
            obtain ⟨hb, hiq⟩ := hiq
            have hiq := Nat.eq_of_beq_eq_true hiq
            subst hb; subst hiq
            have hji : j = i := by
              rcases hcase with h' | h'
              · exact Nat.eq_of_beq_eq_true h'
              · simp only [isQ, Bool.true_and] at h'; exact Nat.eq_of_beq_eq_true h'
            subst hji
            exact wpOp_mono (fun a' w' ⟨_, _, _, J2⟩ => ih.1 J2 hcnt) (J'.actQ hA)
          | false =>
            by_cases hjq : isQ b q j = true
            · simp only [isQ, Bool.and_eq_true] at hjq
              obtain ⟨hb, hjq⟩ := hjq
              have hjq := Nat.eq_of_beq_eq_true hjq
              subst hb; subst hjq
              exact wpOp_mono (fun a' w' ⟨_, _, _, _, F⟩ => ih.2 F hcnt) (J'.early hA hkk)
            · have hji : j = i := by
                rcases hcase with h' | h'
                · exact Nat.eq_of_beq_eq_true h'
                · exact (hjq h').elim
              subst hji
              exact wpOp_mono (fun a' w' ⟨_, _, _, J2⟩ => ih.1 J2 hcnt) (J'.act (fun _ => hA) hiq hj hjp)
    refine ⟨part1, fun {pl} {pend} {Pd} {A} {fr} {h} {ρ} {s} {a} {w} {b} {k1} {ρ1} {w1} F hm => ?_⟩
    obtain ⟨pl', pend', Pd', A', fr', hn, J'⟩ := JE.norm (fun _ => hA) F.J
    have F' : JF P n ops q d e z c kk fr0 k Q ρ₀ T w₀ pl' pend' Pd' A' fr' h ρ s a w b k1 ρ1 w1 := ⟨J', F.slot, F.blk, F.kk1, F.k1k, F.ren, F.keeps, F.Tb, F.lt, F.out⟩
    have hok := J'.ok
    have hAq := J'.qn rfl
    cases pl' with
    | st i p => exact (hn i p rfl).elim
    | alt x y => simp [okB] at hok
    | nil =>
      simp only [okB, List.isEmpty_iff] at hok
      have := q_ready hA J'.asz hAq
      rw [hok] at this; cases this
    | ac i np rc p =>
      by_cases hiq : i = q
      · subst hiq
        obtain ⟨_, _, _, J2⟩ := F'.turn hA
        exact part1 J2 hm
      · have hsq : s.getD q false = false := by rw [J'.eq q, hAq]; rfl
        have hib : isQ true q i = false := by simp only [isQ, Bool.true_and]; exact nbeq_ne hiq
        simp only [okB, Bool.and_eq_true] at hok
        have hiA : i ∈ Region.ready .any ops A' := by simpa using hok.1.1.1.1
        have hall : ∀ j ∈ Region.ready .any ops (A'.setIfInBounds q true), j = i := fun j hj => by
          have h1 := hok.1.1.2
          simp only [Bool.or_eq_true, nbeq_ne hiq, Bool.not_true, Bool.false_eq_true, false_or, List.all_eq_true] at h1
          exact Nat.eq_of_beq_eq_true (h1 j hj)
        refine ⟨fun hr => ?_, fun j hj => ?_⟩
        · exfalso
          have hPd := J'.comes hdn (fun p hp hpr => by
            have hpq : p ≠ q := fun hh => by have h1 := J'.pdA p hp; rw [hh, hAq] at h1; cases h1
            have := ready_mono (i := q) hpr hpq
            rw [hr] at this; cases this)
          subst hPd
          have hsA := J'.sA
          subst hsA
          have := ready_mono (i := q) hiA hiq
          rw [hr] at this; cases this
        · have hsz' : (s.setIfInBounds q true).size = ops.size := by simp [J'.ssz]
          have hqs : q < s.size := by rw [J'.ssz]; exact hqo
          obtain ⟨hjlt, hjs⟩ := ready_lt hj
          have hjs := hjs hsz'
          have hjq : j ≠ q := fun hh => by rw [hh, getD_set_eq hqs, Nat.beq_refl] at hjs; cases hjs
          have hcnt := cnt_set hsz' hj hm
          rw [set_comm] at hcnt ⊢
          by_cases hjp : j ∈ Pd'
          · have hno : hasEdge ops j q = false := by
              cases hx : hasEdge ops j q with
              | false => rfl
              | true => have := J'.cA j q (J'.pdA j hjp) hx; rw [hAq] at this; cases this
            have hjr := ready_back J'.ssz hjq hqo hj hno
            exact wpOp_mono (fun a' w' ⟨_, _, _, F2⟩ => ih.2 F2 hcnt) (F'.step hA hjq hjlt (wpOp_mono (fun a' w' J2 => ⟨_, _, _, J2⟩) (J'.done hjp hjr)))
          · have hjA2 : j ∈ Region.ready .any ops (A'.setIfInBounds q true) := by
              obtain ⟨_, o, ho, hdeps⟩ := mem_ready.1 hj
              have hqA : q < A'.size := by rw [J'.asz]; exact hqo
              rw [getD_set_eq hqs, nbeq_ne hjq, Bool.false_or] at hjs
              have hAj : A'.getD j false = false := by
                have := J'.eq j
                rw [hjs] at this
                have hc : Pd'.contains j = false := by simpa using hjp
                rw [hc] at this
                simpa using this.symm
              refine ready_of (by simp [J'.asz]) ho (by rw [getD_set_eq hqA, nbeq_ne hjq, hAj]; rfl) fun x hx => ?_
              simp only [hasEdge, ho, List.any_eq_true, Bool.and_eq_true] at hx
              obtain ⟨ed, he, hb, hx⟩ := hx
              have := hdeps ed (by simpa using he) hb
              rw [Nat.eq_of_beq_eq_true hx, getD_set_eq hqs] at this
              rw [getD_set_eq hqA]
              by_cases hxq : x = q
              · subst hxq; rw [Nat.beq_refl]; rfl
              · rw [nbeq_ne hxq, Bool.false_or] at this ⊢
                rw [J'.eq x] at this
                simp only [Bool.and_eq_true] at this
                exact this.1
            have hji := hall j hjA2
            subst hji
            have hjr := ready_back J'.ssz hjq hqo hj (no_edge hiA hAq)
            exact wpOp_mono (fun a' w' ⟨_, _, _, F2⟩ => ih.2 F2 hcnt) (F'.step hA hjq hjlt (J'.act (fun _ => hA) hib hjr hjp))
end
theorem wpAny_N (hdn : edgesDown ops = true) : ∀ (m : Nat) {pl : Pl} {pend Pd : List Nat} {A : Array Bool} {fr : Fr} {h : Heap} {ρ : Ren} {s : Array Bool} {a : Act} {w : World}, JE P n ops q d e c kk fr0 k Q ρ₀ T w₀ false pl pend Pd A fr h ρ s a w → cnt ops s ≤ m →
      wpAny P .any ops (rpost k n ρ₀ T w₀ (endQ ops fr0 Q)) m s a w
  | 0, pl, pend, Pd, A, fr, h, ρ, s, a, w, J, hm => by
    obtain ⟨pl', pend', Pd', A', fr', hn, J'⟩ := JE.norm (z := #[]) (fun hb => by cases hb) J
    have hr := cnt_zero J.ssz hm
    exact ⟨hr, J'.fin hdn hn hr⟩
  | m + 1, pl, pend, Pd, A, fr, h, ρ, s, a, w, J, hm => by
    obtain ⟨pl', pend', Pd', A', fr', hn, J'⟩ := JE.norm (z := #[]) (fun hb => by cases hb) J
    refine ⟨fun hr => J'.fin hdn hn hr, fun j hj => ?_⟩
    have hcnt := cnt_set J.ssz hj hm
    by_cases hjp : j ∈ Pd'
    · exact wpOp_mono (fun a' w' J2 => wpAny_N hdn m J2 hcnt) (J'.done hjp hj)
    · have hjA := J'.readyA hj hjp
      have hok := J'.ok
      cases pl' with
      | st i p => exact (hn i p rfl).elim
      | alt x y => simp [okB] at hok
      | nil =>
        simp only [okB, List.isEmpty_iff] at hok
        rw [hok] at hjA; cases hjA
      | ac i np rc p =>
        simp only [okB, Bool.and_eq_true, List.all_eq_true, Bool.or_eq_true] at hok
        have hji : j = i := by
          rcases hok.1.1.1.2 j hjA with h' | h'
          · exact Nat.eq_of_beq_eq_true h'
          · simp [isQ] at h'
        subst hji
        exact wpOp_mono (fun a' w' ⟨_, _, _, J2⟩ => wpAny_N hdn m J2 hcnt) (J'.act (z := #[]) (fun hb => by cases hb) (by simp [isQ]) hj hjp)
end
end Go.Proofs.YtpbdlibgbkhlhaaGreat.SE
