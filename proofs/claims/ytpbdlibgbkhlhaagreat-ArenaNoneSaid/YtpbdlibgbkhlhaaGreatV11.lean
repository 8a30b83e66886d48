/- Code, and functions. -/
import Derived.Test.YtpbdlibgbkhlhaaGreatV10
import Derived.Scope
namespace Go.Proofs.YtpbdlibgbkhlhaaGreat.SE
open Go

/-! ### Code -/
abbrev APost := Exit → Fr → Heap → Prop
def thenQ (K : Fr → Heap → Prop) (Q : APost) : APost := fun e fr h => match e with
  | .normal => K fr h
  | e => Q e fr h
def blockQ (id : Nat) (Q : APost) : APost := fun e fr h => match e with
  | .exit id' => bif Nat.beq id' id then Q .normal fr h else Q (.exit id') fr h
  | e => Q e fr h
def vOps (call : WFn) (tt : TT) (n : Nat) (ops : Array Oper) : List Nat → Fr → Heap → (Fr → Heap → Prop) → Prop
  | [], fr, h, Q => Q fr h
  | i :: l, fr, h, Q => vAct call tt n ops i fr h fun fr' h' => vOps call tt n ops l fr' h' Q
/-- The slots that code writes. -/
def wrC : Code → List Nat
  | .region _ ops _ => DS ops (List.range ops.size)
  | .seq a b => wrC a ++ wrC b
  | .cond _ a b => wrC a ++ wrC b
  | .block _ a => wrC a
  | .loop a => wrC a
  | .scope a => wrC a
  | _ => []
def setC (fr : Fr) (c : Operand) (b : Bool) : Fr := match c with
  | .tmp t => putF fr (some t) (.lit (.bool b))
  | _ => fr
/-- One of the forms holds. -/
def entP (k n : Nat) (W : List Nat) (fr0 : Fr) (h0 : Heap) (P : (A : LAnn) → A.σ → Prop) (fr : Fr) (h : Heap) : List LAnn → Prop
  | [] => False
  | [A] => ∃ s : A.σ, A.inv s ∧ P A s ∧ fitP k (h0.next + A.nx) n (A.fr s) W fr0 (wantO (A.ob s) h0 (h0.next + A.nx)) fr h
  | A :: L => (∃ s : A.σ, A.inv s ∧ P A s ∧ fitP k (h0.next + A.nx) n (A.fr s) W fr0 (wantO (A.ob s) h0 (h0.next + A.nx)) fr h) ∨ entP k n W fr0 h0 P fr h L
def vLoop (k n : Nat) (W : List Nat) (fr0 : Fr) (h0 : Heap) (body : (Fr → Heap → Prop) → Fr → Heap → Prop) (all : List LAnn) : List LAnn → Prop
  | [] => True
  | A :: L => (∀ s : A.σ, A.inv s → body (fun fr h => entP k n W fr0 h0 (fun B t => B.meas t < A.meas s) fr h all) (frAt (A.fr s) fr0 W n) (heapOf (h0.next + A.nx) (wantO (A.ob s) h0 (h0.next + A.nx)))) ∧ vLoop k n W fr0 h0 body all L
/-- What holds at the heads of loops: of each block, by the frame and the heap at its entry. -/
abbrev Anns := Nat → Fr → Heap → List LAnn
/-- A whole number of a frame. -/
def intAt (fr : Fr) (t : Nat) : Int := match look fr t with
  | .lit (.int _ z) => z
  | _ => 0
def wpC (call : WFn) (tt : TT) (k n : Nat) (an : Anns) : Nat → Code → APost → Fr → Heap → Prop
  | 0, _, _, _, _ => False
  | _ + 1, .skip, Q, fr, h => Q .normal fr h
  | _ + 1, .ret, Q, fr, h => Q .ret fr h
  | _ + 1, .exit id, Q, fr, h => Q (.exit id) fr h
  | f + 1, .seq x y, Q, fr, h => wpC call tt k n an f x (thenQ (fun fr h => wpC call tt k n an f y Q fr h) Q) fr h
  | f + 1, .cond c x y, Q, fr, h => match evA fr c with
    | .lit (.bool b) => cP b (wpC call tt k n an f x Q (setC fr c true) h) (wpC call tt k n an f y Q (setC fr c false) h)
    | _ => False
  | f + 1, .block id x, Q, fr, h => match x, an id fr h with
    | .loop y, A :: L => entP k n (wrC y) fr h (fun _ _ => True) fr h (A :: L) ∧
        vLoop k n (wrC y) fr h (fun K fr' h' => wpC call tt k n an f y (thenQ K (blockQ id Q)) fr' h') (A :: L) (A :: L)
    | _, _ => wpC call tt k n an f x (blockQ id Q) fr h
  | f + 1, .scope x, Q, fr, h => wpC call tt k n an f x Q fr h
  | _ + 1, .label _, Q, fr, h => Q .normal fr h
  | f + 1, .loop x, Q, fr, h => wpC call tt k n an f x (thenQ (fun fr h => wpC call tt k n an f (.loop x) Q fr h) Q) fr h
  | _ + 1, .region _ ops draw, Q, fr, h => match draw with
    | true => let pl := planT ops (ops.size + 1) [] (Array.replicate ops.size false)
      bif okPl ops pl [] (Array.replicate ops.size false) && edgesDown ops then vPl call tt n ops pl fr h (Q .normal) else False
    | false => vOps call tt n ops (List.range ops.size) fr h (Q .normal)
  | _ + 1, _, _, _, _ => False

section
variable {P : Program} {tt : TT} {k n : Nat} {call : WFn}
theorem awp_label {l : Nat} {Q : APost} {fr : Fr} {h : Heap} (hq : Q .normal fr h) : AWp P k n (.label l) Q fr h :=
  fun ρ _ _ _ hs => wp_label ⟨ρ, fr, h, fun _ _ => rfl, hs, Keeps.refl _ _, hq⟩
theorem awp_scope {c : Code} {Q : APost} {fr : Fr} {h : Heap} (hc : AWp P k n c Q fr h) : AWp P k n (.scope c) Q fr h := by
  intro ρ T w a hs
  refine wp_scope_straight (wp_mono (hc ρ T w a hs) fun e a' w' hh => ?_)
  cases e <;> first | exact hh | exact hh.elim
theorem Agree.refl (W : List Nat) (fr : Fr) : Agree n W fr fr := fun _ _ _ => rfl
theorem Agree.trans {W : List Nat} {a b c : Fr} (h : Agree n W a b) (g : Agree n W b c) : Agree n W a c := fun t ht hw => (g t ht hw).trans (h t ht hw)
theorem Agree.mono {W W' : List Nat} {a b : Fr} (h : Agree n W a b) (hs : ∀ t ∈ W, t ∈ W') : Agree n W' a b := fun t ht hw => h t ht (by
  cases hh : inW W t with
  | false => rfl
  | true => have := hs t (inW_iff.1 hh); rw [inW_iff.2 this] at hw; cases hw)
/-- A post, and that the slots beside W stay. -/
def andAg (n : Nat) (W : List Nat) (fr0 : Fr) (Q : APost) : APost := fun e fr h => Agree n W fr0 fr ∧ Q e fr h

theorem vOps_ok (hT : tt.ok P) (hc : WOk P call) {ops : Array Oper} {Q : Fr → Heap → Prop} : ∀ (l : List Nat) (fr : Fr) (h : Heap), vOps call tt n ops l fr h Q →
    ∀ ρ T w a, St k n ρ T fr h a w → wpPlan P ops (rpost k n ρ T w (fun fr' h' => (∀ t, (∀ i ∈ l, dstOf ops i ≠ some t) → look fr' t = look fr t) ∧ Q fr' h')) (l.map .xx) a w
  | [], fr, h, hq => fun ρ T w a hs => ⟨ρ, fr, h, fun _ _ => rfl, hs, Keeps.refl _ _, fun _ _ => rfl, hq⟩
  | i :: l, fr, h, hq => fun ρ T w a hs => by
    have := vAct_ok (P := P) (Q := rpost k n ρ T w (fun fr' h' => (∀ t, (∀ j ∈ i :: l, dstOf ops j ≠ some t) → look fr' t = look fr t) ∧ Q fr' h')) (l := []) hT hc hs.rel hs.fr (fun _ _ => by simp) hq
    refine wpOp_mono ?_ this
    rintro a' w' ⟨fr', h', ρ', b1, b2, b3, b4, b5, b6, b7⟩
    have hs' : St k n ρ' T fr' h' a' w' := ⟨Nat.le_trans hs.le b2, b3, b4⟩
    have ih := vOps_ok hT hc l fr' h' b7 ρ' T w' a' hs'
    refine wpPlan_mono (fun e a2 w2 hh => ?_) _ _ _ ih
    refine rpost_mono (fun j hj => b1 j (Nat.lt_of_lt_of_le hj hs.le)) b6 e a2 w2 ?_
    cases e <;> first | exact After.mono (fun fr2 h2 ⟨g1, g2⟩ => ⟨fun t ht => (g1 t fun j hj => ht j (by simp [hj])).trans (b5 t (ht i (by simp))), g2⟩) hh | exact hh.elim

/-- States that may be taken for others. -/
def SubTo (k n : Nat) (Q : Fr → Heap → Prop) (fr : Fr) (h : Heap) : Prop := ∃ fr' h', (∀ ρ T a w, St k n ρ T fr h a w → ∃ ρ', (∀ i, i < k → ρ' i = ρ i) ∧ St k n ρ' T fr' h' a w) ∧ Q fr' h'
theorem After.subTo {ρ₀ : Ren} {T : Nat → Prop} {w₀ : World} {Q : Fr → Heap → Prop} {a : Act} {w : World} (hh : After k n ρ₀ T w₀ (SubTo k n Q) a w) : After k n ρ₀ T w₀ Q a w := by
  obtain ⟨ρ, fr, h, h1, h2, h3, fr', h', hs, hq⟩ := hh
  obtain ⟨ρ', r1, r2⟩ := hs ρ T a w h2
  exact ⟨ρ', fr', h', fun i hi => (r1 i hi).trans (h1 i hi), r2, h3, hq⟩
theorem awp_subTo {c : Code} {Q : APost} {fr : Fr} {h : Heap} (hc : AWp P k n c (fun e => SubTo k n (Q e)) fr h) : AWp P k n c Q fr h :=
  fun ρ T w a hs => wp_mono (hc ρ T w a hs) fun e a w hh => by cases e <;> first | exact After.subTo hh | exact hh.elim
theorem SubTo.self {Q : Fr → Heap → Prop} {fr : Fr} {h : Heap} (hq : Q fr h) : SubTo k n Q fr h := ⟨fr, h, fun ρ _ _ _ hs => ⟨ρ, fun _ _ => rfl, hs⟩, hq⟩

theorem entP_elim {W : List Nat} {fr0 : Fr} {h0 : Heap} {p : (A : LAnn) → A.σ → Prop} {fr : Fr} {h : Heap} : ∀ {L : List LAnn}, entP k n W fr0 h0 p fr h L → ∃ A ∈ L, ∃ s : A.σ, A.inv s ∧ p A s ∧ fitP k (h0.next + A.nx) n (A.fr s) W fr0 (wantO (A.ob s) h0 (h0.next + A.nx)) fr h
  | [], hh => hh.elim
  | [A], hh => ⟨A, by simp, hh⟩
  | A :: B :: L, hh => by
    rcases hh with hh | hh
    · exact ⟨A, by simp, hh⟩
    · obtain ⟨C, hC, r⟩ := entP_elim (L := B :: L) hh
      exact ⟨C, List.mem_cons_of_mem _ hC, r⟩
theorem vLoop_elim {W : List Nat} {fr0 : Fr} {h0 : Heap} {body : (Fr → Heap → Prop) → Fr → Heap → Prop} {all : List LAnn} : ∀ {L : List LAnn}, vLoop k n W fr0 h0 body all L → ∀ A ∈ L, ∀ s : A.σ, A.inv s →
    body (fun fr h => entP k n W fr0 h0 (fun B t => B.meas t < A.meas s) fr h all) (frAt (A.fr s) fr0 W n) (heapOf (h0.next + A.nx) (wantO (A.ob s) h0 (h0.next + A.nx)))
  | A :: L, hh, B, hB => by
    rcases List.mem_cons.1 hB with rfl | hB
    · exact hh.1
    · exact vLoop_elim hh.2 B hB

theorem same_ag {W : List Nat} {fr fr' : Fr} (h : Same fr fr') : Agree n W fr fr' := fun t _ _ => h t
theorem setC_same {fr : Fr} {c : Operand} {b : Bool} (h : evA fr c = .lit (.bool b)) : Same fr (setC fr c b) := by
  cases c with
  | tmp t => exact Same.put h
  | _ => exact fun _ => rfl
theorem AWp.same {c : Code} {Q : APost} {fr fr' : Fr} {h : Heap} (hs : Same fr fr') (hc : AWp P k n c Q fr' h) : AWp P k n c Q fr h := fun ρ T w a st => hc ρ T w a ⟨st.le, st.rel, st.fr.same fun t => .inl (hs t)⟩

theorem wpC_le (hT : tt.ok P) (hm : P.follows .mixedOrders = true) (hc : WOk P call) (an : Anns) : ∀ (N f : Nat), f ≤ N → ∀ (c : Code) (Q : APost) (fr : Fr) (h : Heap), wpC call tt k n an f c Q fr h → AWp P k n c (andAg n (wrC c) fr Q) fr h := by
  intro N
  induction N with
  | zero => intro f hf c Q fr h hq; have : f = 0 := by omega
            subst this; simp [wpC] at hq
  | succ N ihN =>
    intro f hf c Q fr h hq
    cases f with
    | zero => simp [wpC] at hq
    | succ f =>
    have ih := ihN f (by omega)
    cases c with
    | skip => exact awp_skip ⟨Agree.refl _ _, hq⟩
    | ret => exact awp_ret ⟨Agree.refl _ _, hq⟩
    | exit id => exact awp_exit ⟨Agree.refl _ _, hq⟩
    | label l => exact awp_label ⟨Agree.refl _ _, hq⟩
    | scope x =>
      simp only [wpC] at hq
      exact awp_scope (ih x Q fr h hq)
    | seq x y =>
      simp only [wpC] at hq
      refine awp_seq ((ih x _ fr h hq).mono fun e fr1 h1 ⟨g1, g2⟩ => ?_)
      have gl : Agree n (wrC x ++ wrC y) fr fr1 := g1.mono fun t ht => List.mem_append_left _ ht
      cases e with
      | normal =>
        refine (ih y Q fr1 h1 g2).mono fun e2 fr2 h2 ⟨q1, q2⟩ => ?_
        exact ⟨gl.trans (q1.mono fun t ht => List.mem_append_right _ ht), q2⟩
      | _ => exact ⟨gl, g2⟩
    | cond c x y =>
      simp only [wpC] at hq
      split at hq
      · rename_i b hb
        rcases cP_elim hq with ⟨rfl, hq⟩ | ⟨rfl, hq⟩
        · refine awp_cond hb (fun _ => ?_) (fun h => by cases h)
          refine AWp.same (setC_same hb) ((ih x Q _ h hq).mono fun e fr1 h1 ⟨g1, g2⟩ => ⟨(same_ag (setC_same hb)).trans (g1.mono fun t ht => List.mem_append_left _ ht), g2⟩)
        · refine awp_cond hb (fun h => by cases h) (fun _ => ?_)
          refine AWp.same (setC_same hb) ((ih y Q _ h hq).mono fun e fr1 h1 ⟨g1, g2⟩ => ⟨(same_ag (setC_same hb)).trans (g1.mono fun t ht => List.mem_append_right _ ht), g2⟩)
      · exact hq.elim
    | block id x =>
      have plain : wpC call tt k n an f x (blockQ id Q) fr h → AWp P k n (.block id x) (andAg n (wrC (.block id x)) fr Q) fr h := fun hq => by
        refine awp_block ((ih x _ fr h hq).mono fun e fr1 h1 ⟨g1, g2⟩ => ?_)
        cases e with
        | exit id' =>
          simp only [blockQ] at g2
          simp only [blockA]
          cases hb : Nat.beq id' id <;> rw [hb] at g2
          · have : id' ≠ id := fun he => by subst he; rw [Nat.beq_refl] at hb; cases hb
            rw [if_neg this]; exact ⟨g1, g2⟩
          · rw [if_pos (Nat.eq_of_beq_eq_true hb)]; exact ⟨g1, g2⟩
        | _ => exact ⟨g1, g2⟩
      simp only [wpC] at hq
      split at hq
      · rename_i y A L hx
        obtain ⟨hent, hloop⟩ := hq
        generalize hall : A :: L = all at hent hloop
        clear plain
        let I : Nat → Fr → Heap → Prop := fun m fr1 h1 => ∃ B ∈ all, ∃ s : B.σ, B.inv s ∧ B.meas s = m ∧ fr1 = frAt (B.fr s) fr (wrC y) n ∧ h1 = heapOf (h.next + B.nx) (wantO (B.ob s) h (h.next + B.nx))
        have hN : ∀ (B : LAnn) (s : B.σ), ∀ p ∈ wantO (B.ob s) h (h.next + B.nx), p.1 < h.next + B.nx := fun B s p hp => wantO_lt hp
        have agI : ∀ (l : List (Nat × AV)), (l.all fun p => inW (wrC y) p.1) = true → Agree n (wrC y) fr (frAt l fr (wrC y) n) := fun l hl t ht hw => by
          rw [look_frAt]
          cases hf : l.find? (fun p => p.1 == t) with
          | some p =>
            have hp := List.mem_of_find?_eq_some hf
            have hpt : p.1 = t := by simpa using List.find?_some hf
            have := List.all_eq_true.1 hl p hp
            rw [hpt, hw] at this; cases this
          | none => simp only; rw [if_pos ⟨ht, hw⟩]
        have fitW : ∀ {N : Nat} {l : List (Nat × AV)} {obs : List (Nat × AObj)} {fr1 : Fr} {h1 : Heap}, fitP k N n l (wrC y) fr obs fr1 h1 → (l.all fun p => inW (wrC y) p.1) = true := by
          intro N l obs fr1 h1 hf
          unfold fitP at hf
          generalize matO h1 obs (matL (l.map (·.2)) (l.map fun p => look fr1 p.1) []) = τ at hf
          unfold fitP.go at hf
          cases hb : (tauOk k N τ && lbelow N (l.map (·.2)) && obsBelow N obs && l.all (fun p => inW (wrC y) p.1) && (keepL fr (wrC y) n).all (fun p => vsame N τ p.2) && Nat.ble k N) with
          | false => rw [hb] at hf; exact hf.elim
          | true => simp only [Bool.and_eq_true] at hb; exact hb.1.1.2
        -- each form that is reached: the slots beside stay
        let J : Nat → Fr → Heap → Prop := fun m fr1 h1 => I m fr1 h1 ∧ Agree n (wrC y) fr fr1
        have toJ : ∀ (p : (B : LAnn) → B.σ → Prop) (fr1 : Fr) (h1 : Heap), Agree n (wrC y) fr fr1 → entP k n (wrC y) fr h p fr1 h1 all → SubTo k n (fun fr2 h2 => ∃ m, (∃ B ∈ all, ∃ s : B.σ, p B s ∧ B.meas s = m) ∧ J m fr2 h2) fr1 h1 := by
          intro p fr1 h1 hag hent
          obtain ⟨B, hB, s, hi, hp, hf⟩ := entP_elim hent
          exact ⟨_, _, fun ρ T a w hs => fit_sub (hN B s) hag hf hs, B.meas s, ⟨B, hB, s, hp, rfl⟩, ⟨B, hB, s, hi, rfl, rfl, rfl⟩, agI _ (fitW hf)⟩
        obtain ⟨fr1, h1, hsub, m0, _, hJ⟩ := toJ _ fr h (Agree.refl _ _) hent
        have main : AWp P k n (.loop y) (blockA id (andAg n (wrC y) fr Q)) fr1 h1 := by
          refine awp_loop J hJ fun m fr2 h2 hJ2 => ?_
          obtain ⟨⟨B, hB, s, hi, hme, hf2, hh2⟩, hag2⟩ := hJ2
          have hb := vLoop_elim hloop B hB s hi
          rw [← hf2, ← hh2] at hb
          refine awp_subTo ((ih y _ fr2 h2 hb).mono fun e fr3 h3 ⟨g1, g2⟩ => ?_)
          have hag3 : Agree n (wrC y) fr fr3 := hag2.trans g1
          cases e with
          | normal =>
            obtain ⟨fr4, h4, hs4, m', ⟨C, hC, t, hlt, rfl⟩, hJ4⟩ := toJ _ fr3 h3 hag3 g2
            exact ⟨fr4, h4, hs4, C.meas t, by rw [← hme]; exact hlt, hJ4⟩
          | exit id' =>
            refine SubTo.self ?_
            simp only [thenQ, blockQ] at g2
            simp only [thenA, blockA]
            cases hbb : Nat.beq id' id <;> rw [hbb] at g2
            · have : id' ≠ id := fun he => by subst he; rw [Nat.beq_refl] at hbb; cases hbb
              rw [if_neg this]; exact ⟨hag3, g2⟩
            · rw [if_pos (Nat.eq_of_beq_eq_true hbb)]; exact ⟨hag3, g2⟩
          | _ => exact SubTo.self ⟨hag3, g2⟩
        refine awp_block fun ρ T w a hs => ?_
        obtain ⟨ρ', r1, r2⟩ := hsub ρ T a w hs
        exact wp_mono (main ρ' T w a r2) (apost_trans r1 (Keeps.refl _ _))
      · exact plain hq
    | loop x =>
      simp only [wpC] at hq
      -- unrolled
      let I : Nat → Fr → Heap → Prop := fun m fr1 h1 => m ≤ f + 1 ∧ Agree n (wrC x) fr fr1 ∧ wpC call tt k n an m (.loop x) Q fr1 h1
      refine awp_loop I (m := f + 1) ⟨Nat.le_refl _, Agree.refl _ _, by simp only [wpC]; exact hq⟩ ?_
      rintro m fr2 h2 ⟨hm', hag, hq2⟩
      cases m with
      | zero => simp [wpC] at hq2
      | succ m =>
        simp only [wpC] at hq2
        refine (ihN m (by omega) x _ fr2 h2 hq2).mono fun e fr3 h3 ⟨g1, g2⟩ => ?_
        cases e with
        | normal => exact ⟨m, by omega, by omega, hag.trans g1, g2⟩
        | _ => exact ⟨hag.trans g1, g2⟩
    | region id ops draw =>
      simp only [wpC] at hq
      have hDS : ∀ t, inW (DS ops (List.range ops.size)) t = false → ∀ i, dstOf ops i ≠ some t := fun t ht i hi => by
        have hlt : i < ops.size := by
          rcases Nat.lt_or_ge i ops.size with h' | h'
          · exact h'
          · simp [dstOf, Array.getElem?_eq_none h'] at hi
        have : t ∈ DS ops (List.range ops.size) := mem_DS.2 ⟨i, by simpa using hlt, hi⟩
        rw [inW_iff.2 this] at ht; cases ht
      cases draw with
      | true =>
        simp only at hq
        cases hok : (okPl ops (planT ops (ops.size + 1) [] (Array.replicate ops.size false)) [] (Array.replicate ops.size false) && edgesDown ops) with
        | false => rw [hok] at hq; exact hq.elim
        | true =>
          rw [hok] at hq; simp only [cond_true] at hq
          exact (awp_plan (P := P) hT hc hm hok hq).mono fun e fr1 h1 ⟨g1, g2⟩ => ⟨fun t _ hw => g1 t (hDS t hw), g2⟩
      | false =>
        simp only at hq
        refine awp_region rfl fun ρ T w a hs => ?_
        refine wpPlan_mono (fun e a2 w2 hh => ?_) _ _ _ (vOps_ok (P := P) hT hc _ fr h hq ρ T w a hs)
        cases e <;> first | exact After.mono (fun fr2 h2 ⟨g1, g2⟩ => ⟨fun t _ hw => g1 t fun i _ => hDS t hw i, g2⟩) hh | exact hh.elim
    | _ => simp [wpC] at hq
theorem wpC_ok (hT : tt.ok P) (hm : P.follows .mixedOrders = true) (hc : WOk P call) (an : Anns) {f : Nat} {c : Code} {Q : APost} {fr : Fr} {h : Heap} (hq : wpC call tt k n an f c Q fr h) : AWp P k n c Q fr h :=
  (wpC_le hT hm hc an f f (Nat.le_refl _) c Q fr h hq).mono fun _ _ _ h => h.2
end

/-! ### Functions -/
abbrev WTr := List AV → Heap → (AV → Heap → Prop) → Prop
abbrev WTbl := List (FuncId × WTr)
def lookW : WTbl → FuncId → Option WTr
  | [], _ => none
  | (f, T) :: r, g => bif Nat.beq f g then some T else lookW r g
/-- Each contract of the table is one. -/
def TblOk (P : Program) (tbl : WTbl) : Prop := ∀ p ∈ tbl, ∀ args h K, p.2 args h K → SpE P p.1 args h K
theorem TblOk.nil {P : Program} : TblOk P [] := fun _ h => by cases h
theorem TblOk.cons {P : Program} {f : FuncId} {T : WTr} {tbl : WTbl} (h1 : ∀ args h K, T args h K → Sp P f args h K) (h2 : TblOk P tbl) : TblOk P ((f, T) :: tbl) := fun p hp => by
  rcases List.mem_cons.1 hp with rfl | hp
  · exact fun args h K hq => .inl (h1 args h K hq)
  · exact h2 p hp
theorem TblOk.consX {P : Program} {f : FuncId} {T : WTr} {tbl : WTbl} (h1 : ∀ args h K, T args h K → XSp P f args h K) (h2 : TblOk P tbl) : TblOk P ((f, T) :: tbl) := fun p hp => by
  rcases List.mem_cons.1 hp with rfl | hp
  · exact fun args h K hq => .inr (h1 args h K hq)
  · exact h2 p hp
theorem TblOk.append {P : Program} {a b : WTbl} (h1 : TblOk P a) (h2 : TblOk P b) : TblOk P (a ++ b) := fun p hp => by
  rcases List.mem_append.1 hp with h | h
  · exact h1 p h
  · exact h2 p h
theorem lookW_mem : ∀ {tbl : WTbl} {g : FuncId} {T : WTr}, lookW tbl g = some T → (g, T) ∈ tbl
  | (f, S) :: r, g, T, h => by
    simp only [lookW] at h
    cases hb : Nat.beq f g <;> rw [hb] at h
    · exact List.mem_cons_of_mem _ (lookW_mem h)
    · simp at h; subst h; rw [Nat.eq_of_beq_eq_true hb]; simp
def retPost (tt : TT) (fn : Func) (K : AV → Heap → Prop) : APost := fun e fr h => bif isDone e then (match retA tt fn fr h with
  | some v => K v h
  | none => False) else False
/-- A call: by the contract, or by the text. -/
def wpF (P : Program) (tbl : WTbl) (tt : TT) (an : FuncId → Anns) (fuel : Nat) : Nat → WFn
  | 0, _, _, _, _ => False
  | d + 1, g, args, h, K => match P.funcs[g]? with
    | some fn => match fn.body with
      | some c => bif !(fn.name == "runtime.NumGoroutine") && Nat.ble args.length fn.ntmps then
          wpC (fun g args h K => match lookW tbl g with
            | some T => T args h K
            | none => wpF P tbl tt an fuel d g args h K) tt h.next fn.ntmps (an g) fuel c (retPost tt fn K) (entryF args) h else False
      | none => False
    | none => False
theorem wpF_ok {P : Program} {tbl : WTbl} {tt : TT} (hT : tt.ok P) (hm : P.follows .mixedOrders = true) (ht : TblOk P tbl) (an : FuncId → Anns) (fuel : Nat) : ∀ d g args h K, wpF P tbl tt an fuel d g args h K → Sp P g args h K
  | 0 => by intro g args h K hq; simp [wpF] at hq
  | d + 1 => by
    intro g args h K hq
    simp only [wpF] at hq
    split at hq
    · rename_i fn hf
      split at hq
      · rename_i c hb
        cases hcnd : (!(fn.name == "runtime.NumGoroutine") && Nat.ble args.length fn.ntmps) <;> rw [hcnd] at hq
        · exact hq.elim
        · simp only [cond_true] at hq
          simp only [Bool.and_eq_true, Bool.not_eq_true'] at hcnd
          have hc : WOk P (fun g args h K => match lookW tbl g with
            | some T => T args h K
            | none => wpF P tbl tt an fuel d g args h K) := by
            intro g args h K hq
            split at hq
            · rename_i T hl; exact ht _ (lookW_mem hl) args h K hq
            · exact .inl (wpF_ok hT hm ht an fuel d g args h K hq)
          refine spec_of_awp hT hf hcnd.1 hb hcnd.2 ((wpC_ok hT hm hc (an g) hq).mono fun e fr h' hh => ?_)
          unfold retPost at hh
          cases hd : isDone e <;> rw [hd] at hh
          · exact hh.elim
          · simp only [cond_true] at hh
            split at hh
            · rename_i v hv
              refine ⟨?_, v, hv, hh⟩
              cases e <;> first | exact .inl rfl | exact .inr rfl | cases hd
            · exact hh.elim
      · exact hq.elim
    · exact hq.elim

/-! ### Ends -/
/-- The answer v, the objects os (the first k have their numbers): nothing else is told. -/
def endP (k : Nat) (v0 : AV) (os : List AObj) (v : AV) (h : Heap) : Prop := go (matO h (os.zipIdx.map fun p => (p.2, p.1)) (matV v0 v []))
where
  go (τ : Tau) : Prop := bif tauEnd k os.length τ && vbelow os.length v0 && obsBelow os.length (os.zipIdx.map fun p => (p.2, p.1)) && Nat.ble k os.length then (eqV τ v0 v ∧ eqOs τ h (os.zipIdx.map fun p => (p.2, p.1))) else False
  /-- Each of them stands for another one. -/
  tauEnd (k N : Nat) (τ : Tau) : Bool := idsOk k ((List.range N).map (tau τ)) N
theorem leq_end {k : Nat} {v0 : AV} {os : List AObj} {v : AV} {h : Heap} (hf : endP k v0 os v h) : Leq k v h v0 (hO os.length os) := by
  unfold endP at hf
  generalize matO h (os.zipIdx.map fun p => (p.2, p.1)) (matV v0 v []) = τ at hf
  unfold endP.go at hf
  cases hb : (endP.tauEnd k os.length τ && vbelow os.length v0 && obsBelow os.length (os.zipIdx.map fun p => (p.2, p.1)) && Nat.ble k os.length) with
  | false => rw [hb] at hf; exact hf.elim
  | true =>
    rw [hb] at hf; simp only [cond_true] at hf
    simp only [Bool.and_eq_true, Nat.ble_eq, obsBelow, List.all_eq_true] at hb
    obtain ⟨⟨⟨b1, b2⟩, b3⟩, b4⟩ := hb
    obtain ⟨t1, t2, t3⟩ := idsOk_spec b1
    have at_ : ∀ i, i < os.length → atL ((List.range os.length).map (tau τ)) i = tau τ i := fun i hi => by
      simp [atL, List.getD_eq_getElem?_getD, hi]
    have hos : ∀ p ∈ os.zipIdx.map (fun p => (p.2, p.1)), eqO τ p.2 (h.get (tau τ p.1)) := by
      have : ∀ obs : List (Nat × AObj), eqOs τ h obs → ∀ p ∈ obs, eqO τ p.2 (h.get (tau τ p.1)) := by
        intro obs
        induction obs with
        | nil => intro _ p hp; cases hp
        | cons x r ih =>
          intro he p hp
          rcases List.mem_cons.1 hp with rfl | hp
          · exact he.1
          · exact ih he.2 p hp
      exact this _ hf.2
    have mem : ∀ i o, os[i]? = some o → (i, o) ∈ os.zipIdx.map (fun p => (p.2, p.1)) := fun i o hi => by
      refine List.mem_map.2 ⟨(o, i), ?_, rfl⟩
      rw [List.mem_zipIdx_iff_getElem?]; exact hi
    refine ⟨b4, fun ρ T w u hR hv => ⟨_, fun i hi => ?_, hR.sub (h' := hOf os) (tau τ) (fun i j hi hj he => t3 i j hi hj (by rw [at_ i hi, at_ j hj]; exact he)) (fun i o0 hi => ?_), ?_⟩⟩
    · have hin : i < (hOf os).next := Nat.lt_of_lt_of_le hi b4
      have := t2 i hi
      rw [at_ i hin] at this
      simp only [if_pos hin, this]
    · rw [hOf_get] at hi
      have hlt := (List.getElem?_eq_some_iff.1 hi).1
      obtain ⟨o', ho', hsoft⟩ := eqO_soft (N := os.length) (b3 _ (mem i o0 hi)) (hos _ (mem i o0 hi))
      exact ⟨hlt, o', ho', hsoft⟩
    · exact eqV_ok (N := os.length) (fun i hi => by
        have : i < (hOf os).next := hi
        simp only [if_pos this]) _ _ _ b2 hf.1 hv
/-- A contract by the text: the answer is v0, and what is left of memory os. -/
theorem sp_end {P : Program} {tbl : WTbl} {tt : TT} (hT : tt.ok P) (hm : P.follows .mixedOrders = true) (ht : TblOk P tbl) (an : FuncId → Anns) (fuel d : Nat) {g : FuncId} {args : List AV} {h : Heap} {v0 : AV} {os : List AObj}
    (hq : wpF P tbl tt an fuel d g args h (fun v h' => endP h.next v0 os v h')) : Sp P g args h (fun v h' => v = v0 ∧ h' = hO os.length os) :=
  sp_leq ((wpF_ok hT hm ht an fuel d g args h _ hq).mono fun _ _ hh => ⟨_, _, leq_end hh, rfl, rfl⟩)
theorem sp_endk {P : Program} {tbl : WTbl} {tt : TT} (hT : tt.ok P) (hm : P.follows .mixedOrders = true) (ht : TblOk P tbl) (an : FuncId → Anns) (fuel d k m : Nat) {g : FuncId} {args : List AV} {h : Heap} {v0 : AV} {os : List AObj} (hk : h.next = k) (hl : os.length = m)
    (hq : wpF P tbl tt an fuel d g args h (fun v h' => endP k v0 os v h')) : Sp P g args h (fun v h' => v = v0 ∧ h' = hO m os) := by
  subst hk hl; exact sp_end hT hm ht an fuel d hq
attribute [irreducible] wpF wpC endP
end Go.Proofs.YtpbdlibgbkhlhaaGreat.SE
