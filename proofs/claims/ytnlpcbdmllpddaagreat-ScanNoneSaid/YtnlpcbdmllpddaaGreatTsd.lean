import Derived.Test.YtnlpcbdmllpddaaGreatTsa
import Derived.Test.YtnlpcbdmllpddaaGreatTsb
import Derived.Test.YtnlpcbdmllpddaaGreatTsc
import Derived.Scope
import Derived.Laws.LoneSync
import Derived.Lib.Bytealg
section
/- Code, and functions. -/
namespace Go.Proofs.YtnlpcbdmllpddaaGreat.SE
open Go

/-! ### Code -/
abbrev APost := Exit → Fr → Heap → Prop
def thenQ (K : Fr → Heap → Prop) (Q : APost) : APost := fun e fr h => match e with
  | .normal => K fr h
  | e => Q e fr h
def blockQ (id : Nat) (Q : APost) : APost := fun e fr h => match e with
  | .exit id' => bif Nat.beq id' id then Q .normal fr h else Q (.exit id') fr h
  | e => Q e fr h
def vOps (call : WFn) (tt : TT) (n : Nat) (ops : Array Oper) : List Nat → Fr → Heap → (Fr → Heap → Prop) → Prop
  | [], fr, h, Q => Q fr h
  | i :: l, fr, h, Q => vAct call tt n ops i fr h fun fr' h' => vOps call tt n ops l fr' h' Q
/-- The slots that code writes. -/
def wrC : Code → List Nat
  | .region _ ops _ => DS ops (List.range ops.size)
  | .seq a b => wrC a ++ wrC b
  | .cond _ a b => wrC a ++ wrC b
  | .block _ a => wrC a
  | .loop a => wrC a
  | .scope a => wrC a
  | _ => []
def setC (fr : Fr) (c : Operand) (b : Bool) : Fr := match c with
  | .tmp t => putF fr (some t) (.lit (.bool b))
  | _ => fr
/-- One of the forms holds. -/
def entP (k n : Nat) (W : List Nat) (fr0 : Fr) (h0 : Heap) (P : (A : LAnn) → A.σ → Prop) (fr : Fr) (h : Heap) : List LAnn → Prop
  | [] => False
  | [A] => ∃ s : A.σ, A.inv s ∧ P A s ∧ fitP k (h0.next + A.nx) n (A.fr s) W fr0 (wantO (A.ob s) h0 (h0.next + A.nx)) fr h
  | A :: L => (∃ s : A.σ, A.inv s ∧ P A s ∧ fitP k (h0.next + A.nx) n (A.fr s) W fr0 (wantO (A.ob s) h0 (h0.next + A.nx)) fr h) ∨ entP k n W fr0 h0 P fr h L
def vLoop (k n : Nat) (W : List Nat) (fr0 : Fr) (h0 : Heap) (body : (Fr → Heap → Prop) → Fr → Heap → Prop) (all : List LAnn) : List LAnn → Prop
  | [] => True
  | A :: L => (∀ s : A.σ, A.inv s → body (fun fr h => entP k n W fr0 h0 (fun B t => B.meas t < A.meas s) fr h all) (frAt (A.fr s) fr0 W n) (heapOf (h0.next + A.nx) (wantO (A.ob s) h0 (h0.next + A.nx)))) ∧ vLoop k n W fr0 h0 body all L
/-- What holds at the heads of loops: of each block, by the frame and the heap at its entry. -/
abbrev Anns := Nat → Fr → Heap → List LAnn
/-- A whole number of a frame. -/
def intAt (fr : Fr) (t : Nat) : Int := match look fr t with
  | .lit (.int _ z) => z
  | _ => 0
def wpC (call : WFn) (tt : TT) (k n : Nat) (an : Anns) : Nat → Code → APost → Fr → Heap → Prop
  | 0, _, _, _, _ => False
  | _ + 1, .skip, Q, fr, h => Q .normal fr h
  | _ + 1, .ret, Q, fr, h => Q .ret fr h
  | _ + 1, .exit id, Q, fr, h => Q (.exit id) fr h
  | f + 1, .seq x y, Q, fr, h => wpC call tt k n an f x (thenQ (fun fr h => wpC call tt k n an f y Q fr h) Q) fr h
  | f + 1, .cond c x y, Q, fr, h => match evA fr c with
    | .lit (.bool b) => cP b (wpC call tt k n an f x Q (setC fr c true) h) (wpC call tt k n an f y Q (setC fr c false) h)
    | _ => False
  | f + 1, .block id x, Q, fr, h => match x, an id fr h with
    | .loop y, A :: L => entP k n (wrC y) fr h (fun _ _ => True) fr h (A :: L) ∧
        vLoop k n (wrC y) fr h (fun K fr' h' => wpC call tt k n an f y (thenQ K (blockQ id Q)) fr' h') (A :: L) (A :: L)
    | _, _ => wpC call tt k n an f x (blockQ id Q) fr h
  | f + 1, .scope x, Q, fr, h => wpC call tt k n an f x Q fr h
  | _ + 1, .label _, Q, fr, h => Q .normal fr h
  | f + 1, .loop x, Q, fr, h => wpC call tt k n an f x (thenQ (fun fr h => wpC call tt k n an f (.loop x) Q fr h) Q) fr h
  | _ + 1, .region _ ops draw, Q, fr, h => match draw with
    | true => let pl := planT ops (ops.size + 1) [] (Array.replicate ops.size false)
      bif okPl ops pl [] (Array.replicate ops.size false) && edgesDown ops then vPl call tt n ops pl fr h (Q .normal) else False
    | false => vOps call tt n ops (List.range ops.size) fr h (Q .normal)
  | _ + 1, _, _, _, _ => False

section
variable {P : Program} {tt : TT} {k n : Nat} {call : WFn}
theorem awp_label {l : Nat} {Q : APost} {fr : Fr} {h : Heap} (hq : Q .normal fr h) : AWp P k n (.label l) Q fr h :=
  fun ρ _ _ _ hs => wp_label ⟨ρ, fr, h, fun _ _ => rfl, hs, Keeps.refl _ _, hq⟩
theorem awp_scope {c : Code} {Q : APost} {fr : Fr} {h : Heap} (hc : AWp P k n c Q fr h) : AWp P k n (.scope c) Q fr h := by
  intro ρ T w a hs
  refine wp_scope_straight (wp_mono (hc ρ T w a hs) fun e a' w' hh => ?_)
  cases e <;> first | exact hh | exact hh.elim
theorem Agree.refl (W : List Nat) (fr : Fr) : Agree n W fr fr := fun _ _ _ => rfl
theorem Agree.trans {W : List Nat} {a b c : Fr} (h : Agree n W a b) (g : Agree n W b c) : Agree n W a c := fun t ht hw => (g t ht hw).trans (h t ht hw)
theorem Agree.mono {W W' : List Nat} {a b : Fr} (h : Agree n W a b) (hs : ∀ t ∈ W, t ∈ W') : Agree n W' a b := fun t ht hw => h t ht (by
  cases hh : inW W t with
  | false => rfl
  | true => have := hs t (inW_iff.1 hh); rw [inW_iff.2 this] at hw; cases hw)
/-- A post, and that the slots beside W stay. -/
def andAg (n : Nat) (W : List Nat) (fr0 : Fr) (Q : APost) : APost := fun e fr h => Agree n W fr0 fr ∧ Q e fr h

theorem vOps_ok (hT : tt.ok P) (hc : WOk P call) {ops : Array Oper} {Q : Fr → Heap → Prop} : ∀ (l : List Nat) (fr : Fr) (h : Heap), vOps call tt n ops l fr h Q →
    ∀ ρ T w a, St k n ρ T fr h a w → wpPlan P ops (rpost k n ρ T w (fun fr' h' => (∀ t, (∀ i ∈ l, dstOf ops i ≠ some t) → look fr' t = look fr t) ∧ Q fr' h')) (l.map .xx) a w
  | [], fr, h, hq => fun ρ T w a hs => ⟨ρ, fr, h, fun _ _ => rfl, hs, Keeps.refl _ _, fun _ _ => rfl, hq⟩
  | i :: l, fr, h, hq => fun ρ T w a hs => by
    have := vAct_ok (P := P) (Q := rpost k n ρ T w (fun fr' h' => (∀ t, (∀ j ∈ i :: l, dstOf ops j ≠ some t) → look fr' t = look fr t) ∧ Q fr' h')) (l := []) hT hc hs.rel hs.fr (fun _ _ => by simp) hq
    refine wpOp_mono ?_ this
    rintro a' w' ⟨fr', h', ρ', b1, b2, b3, b4, b5, b6, b7⟩
    have hs' : St k n ρ' T fr' h' a' w' := ⟨Nat.le_trans hs.le b2, b3, b4⟩
    have ih := vOps_ok hT hc l fr' h' b7 ρ' T w' a' hs'
    refine wpPlan_mono (fun e a2 w2 hh => ?_) _ _ _ ih
    refine rpost_mono (fun j hj => b1 j (Nat.lt_of_lt_of_le hj hs.le)) b6 e a2 w2 ?_
    cases e <;> first | exact After.mono (fun fr2 h2 ⟨g1, g2⟩ => ⟨fun t ht => (g1 t fun j hj => ht j (by simp [hj])).trans (b5 t (ht i (by simp))), g2⟩) hh | exact hh.elim

/-- States that may be taken for others. -/
def SubTo (k n : Nat) (Q : Fr → Heap → Prop) (fr : Fr) (h : Heap) : Prop := ∃ fr' h', (∀ ρ T a w, St k n ρ T fr h a w → ∃ ρ', (∀ i, i < k → ρ' i = ρ i) ∧ St k n ρ' T fr' h' a w) ∧ Q fr' h'
theorem After.subTo {ρ₀ : Ren} {T : Nat → Prop} {w₀ : World} {Q : Fr → Heap → Prop} {a : Act} {w : World} (hh : After k n ρ₀ T w₀ (SubTo k n Q) a w) : After k n ρ₀ T w₀ Q a w := by
  obtain ⟨ρ, fr, h, h1, h2, h3, fr', h', hs, hq⟩ := hh
  obtain ⟨ρ', r1, r2⟩ := hs ρ T a w h2
  exact ⟨ρ', fr', h', fun i hi => (r1 i hi).trans (h1 i hi), r2, h3, hq⟩
theorem awp_subTo {c : Code} {Q : APost} {fr : Fr} {h : Heap} (hc : AWp P k n c (fun e => SubTo k n (Q e)) fr h) : AWp P k n c Q fr h :=
  fun ρ T w a hs => wp_mono (hc ρ T w a hs) fun e a w hh => by cases e <;> first | exact After.subTo hh | exact hh.elim
theorem SubTo.self {Q : Fr → Heap → Prop} {fr : Fr} {h : Heap} (hq : Q fr h) : SubTo k n Q fr h := ⟨fr, h, fun ρ _ _ _ hs => ⟨ρ, fun _ _ => rfl, hs⟩, hq⟩

theorem entP_elim {W : List Nat} {fr0 : Fr} {h0 : Heap} {p : (A : LAnn) → A.σ → Prop} {fr : Fr} {h : Heap} : ∀ {L : List LAnn}, entP k n W fr0 h0 p fr h L → ∃ A ∈ L, ∃ s : A.σ, A.inv s ∧ p A s ∧ fitP k (h0.next + A.nx) n (A.fr s) W fr0 (wantO (A.ob s) h0 (h0.next + A.nx)) fr h
  | [], hh => hh.elim
  | [A], hh => ⟨A, by simp, hh⟩
  | A :: B :: L, hh => by
    rcases hh with hh | hh
    · exact ⟨A, by simp, hh⟩
    · obtain ⟨C, hC, r⟩ := entP_elim (L := B :: L) hh
      exact ⟨C, List.mem_cons_of_mem _ hC, r⟩
theorem vLoop_elim {W : List Nat} {fr0 : Fr} {h0 : Heap} {body : (Fr → Heap → Prop) → Fr → Heap → Prop} {all : List LAnn} : ∀ {L : List LAnn}, vLoop k n W fr0 h0 body all L → ∀ A ∈ L, ∀ s : A.σ, A.inv s →
    body (fun fr h => entP k n W fr0 h0 (fun B t => B.meas t < A.meas s) fr h all) (frAt (A.fr s) fr0 W n) (heapOf (h0.next + A.nx) (wantO (A.ob s) h0 (h0.next + A.nx)))
  | A :: L, hh, B, hB => by
    rcases List.mem_cons.1 hB with rfl | hB
    · exact hh.1
    · exact vLoop_elim hh.2 B hB

theorem same_ag {W : List Nat} {fr fr' : Fr} (h : Same fr fr') : Agree n W fr fr' := fun t _ _ => h t
theorem setC_same {fr : Fr} {c : Operand} {b : Bool} (h : evA fr c = .lit (.bool b)) : Same fr (setC fr c b) := by
  cases c with
  | tmp t => exact Same.put h
  | _ => exact fun _ => rfl
theorem AWp.same {c : Code} {Q : APost} {fr fr' : Fr} {h : Heap} (hs : Same fr fr') (hc : AWp P k n c Q fr' h) : AWp P k n c Q fr h := fun ρ T w a st => hc ρ T w a ⟨st.le, st.rel, st.fr.same fun t => .inl (hs t)⟩

theorem wpC_le (hT : tt.ok P) (hm : P.follows .mixedOrders = true) (hc : WOk P call) (an : Anns) : ∀ (N f : Nat), f ≤ N → ∀ (c : Code) (Q : APost) (fr : Fr) (h : Heap), wpC call tt k n an f c Q fr h → AWp P k n c (andAg n (wrC c) fr Q) fr h := by
  intro N
  induction N with
  | zero => intro f hf c Q fr h hq; have : f = 0 := by omega
            subst this; simp [wpC] at hq
  | succ N ihN =>
    intro f hf c Q fr h hq
    cases f with
    | zero => simp [wpC] at hq
    | succ f =>
    have ih := ihN f (by omega)
    cases c with
    | skip => exact awp_skip ⟨Agree.refl _ _, hq⟩
    | ret => exact awp_ret ⟨Agree.refl _ _, hq⟩
    | exit id => exact awp_exit ⟨Agree.refl _ _, hq⟩
    | label l => exact awp_label ⟨Agree.refl _ _, hq⟩
    | scope x =>
      simp only [wpC] at hq
      exact awp_scope (ih x Q fr h hq)
    | seq x y =>
      simp only [wpC] at hq
      refine awp_seq ((ih x _ fr h hq).mono fun e fr1 h1 ⟨g1, g2⟩ => ?_)
      have gl : Agree n (wrC x ++ wrC y) fr fr1 := g1.mono fun t ht => List.mem_append_left _ ht
      cases e with
      | normal =>
        refine (ih y Q fr1 h1 g2).mono fun e2 fr2 h2 ⟨q1, q2⟩ => ?_
        exact ⟨gl.trans (q1.mono fun t ht => List.mem_append_right _ ht), q2⟩
      | _ => exact ⟨gl, g2⟩
    | cond c x y =>
      simp only [wpC] at hq
      split at hq
      · rename_i b hb
        rcases cP_elim hq with ⟨rfl, hq⟩ | ⟨rfl, hq⟩
        · refine awp_cond hb (fun _ => ?_) (fun h => by cases h)
          refine AWp.same (setC_same hb) ((ih x Q _ h hq).mono fun e fr1 h1 ⟨g1, g2⟩ => ⟨(same_ag (setC_same hb)).trans (g1.mono fun t ht => List.mem_append_left _ ht), g2⟩)
        · refine awp_cond hb (fun h => by cases h) (fun _ => ?_)
          refine AWp.same (setC_same hb) ((ih y Q _ h hq).mono fun e fr1 h1 ⟨g1, g2⟩ => ⟨(same_ag (setC_same hb)).trans (g1.mono fun t ht => List.mem_append_right _ ht), g2⟩)
      · exact hq.elim
    | block id x =>
      have plain : wpC call tt k n an f x (blockQ id Q) fr h → AWp P k n (.block id x) (andAg n (wrC (.block id x)) fr Q) fr h := fun hq => by
        refine awp_block ((ih x _ fr h hq).mono fun e fr1 h1 ⟨g1, g2⟩ => ?_)
        cases e with
        | exit id' =>
          simp only [blockQ] at g2
          simp only [blockA]
          cases hb : Nat.beq id' id <;> rw [hb] at g2
          · have : id' ≠ id := fun he => by subst he; rw [Nat.beq_refl] at hb; cases hb
            rw [if_neg this]; exact ⟨g1, g2⟩
          · rw [if_pos (Nat.eq_of_beq_eq_true hb)]; exact ⟨g1, g2⟩
        | _ => exact ⟨g1, g2⟩
      simp only [wpC] at hq
      split at hq
      · rename_i y A L hx
        obtain ⟨hent, hloop⟩ := hq
        generalize hall : A :: L = all at hent hloop
        clear plain
        let I : Nat → Fr → Heap → Prop := fun m fr1 h1 => ∃ B ∈ all, ∃ s : B.σ, B.inv s ∧ B.meas s = m ∧ fr1 = frAt (B.fr s) fr (wrC y) n ∧ h1 = heapOf (h.next + B.nx) (wantO (B.ob s) h (h.next + B.nx))
        have hN : ∀ (B : LAnn) (s : B.σ), ∀ p ∈ wantO (B.ob s) h (h.next + B.nx), p.1 < h.next + B.nx := fun B s p hp => wantO_lt hp
        have agI : ∀ (l : List (Nat × AV)), (l.all fun p => inW (wrC y) p.1) = true → Agree n (wrC y) fr (frAt l fr (wrC y) n) := fun l hl t ht hw => by
          rw [look_frAt]
          cases hf : l.find? (fun p => p.1 == t) with
          | some p =>
            have hp := List.mem_of_find?_eq_some hf
            have hpt : p.1 = t := by simpa using List.find?_some hf
            have := List.all_eq_true.1 hl p hp
            rw [hpt, hw] at this; cases this
          | none => simp only; rw [if_pos ⟨ht, hw⟩]
        have fitW : ∀ {N : Nat} {l : List (Nat × AV)} {obs : List (Nat × AObj)} {fr1 : Fr} {h1 : Heap}, fitP k N n l (wrC y) fr obs fr1 h1 → (l.all fun p => inW (wrC y) p.1) = true := by
          intro N l obs fr1 h1 hf
          unfold fitP at hf
          generalize matO h1 obs (matL (l.map (·.2)) (l.map fun p => look fr1 p.1) []) = τ at hf
          unfold fitP.go at hf
          cases hb : (tauOk k N τ && lbelow N (l.map (·.2)) && obsBelow N obs && l.all (fun p => inW (wrC y) p.1) && (keepL fr (wrC y) n).all (fun p => vsame N τ p.2) && Nat.ble k N) with
          | false => rw [hb] at hf; exact hf.elim
          | true => simp only [Bool.and_eq_true] at hb; exact hb.1.1.2
        -- each form that is reached: the slots beside stay
        let J : Nat → Fr → Heap → Prop := fun m fr1 h1 => I m fr1 h1 ∧ Agree n (wrC y) fr fr1
        have toJ : ∀ (p : (B : LAnn) → B.σ → Prop) (fr1 : Fr) (h1 : Heap), Agree n (wrC y) fr fr1 → entP k n (wrC y) fr h p fr1 h1 all → SubTo k n (fun fr2 h2 => ∃ m, (∃ B ∈ all, ∃ s : B.σ, p B s ∧ B.meas s = m) ∧ J m fr2 h2) fr1 h1 := by
          intro p fr1 h1 hag hent
          obtain ⟨B, hB, s, hi, hp, hf⟩ := entP_elim hent
          exact ⟨_, _, fun ρ T a w hs => fit_sub (hN B s) hag hf hs, B.meas s, ⟨B, hB, s, hp, rfl⟩, ⟨B, hB, s, hi, rfl, rfl, rfl⟩, agI _ (fitW hf)⟩
        obtain ⟨fr1, h1, hsub, m0, _, hJ⟩ := toJ _ fr h (Agree.refl _ _) hent
        have main : AWp P k n (.loop y) (blockA id (andAg n (wrC y) fr Q)) fr1 h1 := by
          refine awp_loop J hJ fun m fr2 h2 hJ2 => ?_
          obtain ⟨⟨B, hB, s, hi, hme, hf2, hh2⟩, hag2⟩ := hJ2
          have hb := vLoop_elim hloop B hB s hi
          rw [← hf2, ← hh2] at hb
          refine awp_subTo ((ih y _ fr2 h2 hb).mono fun e fr3 h3 ⟨g1, g2⟩ => ?_)
          have hag3 : Agree n (wrC y) fr fr3 := hag2.trans g1
          cases e with
          | normal =>
            obtain ⟨fr4, h4, hs4, m', ⟨C, hC, t, hlt, rfl⟩, hJ4⟩ := toJ _ fr3 h3 hag3 g2
            exact ⟨fr4, h4, hs4, C.meas t, by rw [← hme]; exact hlt, hJ4⟩
          | exit id' =>
            refine SubTo.self ?_
            simp only [thenQ, blockQ] at g2
            simp only [thenA, blockA]
            cases hbb : Nat.beq id' id <;> rw [hbb] at g2
            · have : id' ≠ id := fun he => by subst he; rw [Nat.beq_refl] at hbb; cases hbb
              rw [if_neg this]; exact ⟨hag3, g2⟩
            · rw [if_pos (Nat.eq_of_beq_eq_true hbb)]; exact ⟨hag3, g2⟩
          | _ => exact SubTo.self ⟨hag3, g2⟩
        refine awp_block fun ρ T w a hs => ?_
        obtain ⟨ρ', r1, r2⟩ := hsub ρ T a w hs
        exact wp_mono (main ρ' T w a r2) (apost_trans r1 (Keeps.refl _ _))
      · exact plain hq
    | loop x =>
      simp only [wpC] at hq
      -- unrolled
      let I : Nat → Fr → Heap → Prop := fun m fr1 h1 => m ≤ f + 1 ∧ Agree n (wrC x) fr fr1 ∧ wpC call tt k n an m (.loop x) Q fr1 h1
      refine awp_loop I (m := f + 1) ⟨Nat.le_refl _, Agree.refl _ _, by simp only [wpC]; exact hq⟩ ?_
      rintro m fr2 h2 ⟨hm', hag, hq2⟩
      cases m with
      | zero => simp [wpC] at hq2
      | succ m =>
        simp only [wpC] at hq2
        refine (ihN m (by omega) x _ fr2 h2 hq2).mono fun e fr3 h3 ⟨g1, g2⟩ => ?_
        cases e with
        | normal => exact ⟨m, by omega, by omega, hag.trans g1, g2⟩
        | _ => exact ⟨hag.trans g1, g2⟩
    | region id ops draw =>
      simp only [wpC] at hq
      have hDS : ∀ t, inW (DS ops (List.range ops.size)) t = false → ∀ i, dstOf ops i ≠ some t := fun t ht i hi => by
        have hlt : i < ops.size := by
          rcases Nat.lt_or_ge i ops.size with h' | h'
          · exact h'
          · simp [dstOf, Array.getElem?_eq_none h'] at hi
        have : t ∈ DS ops (List.range ops.size) := mem_DS.2 ⟨i, by simpa using hlt, hi⟩
        rw [inW_iff.2 this] at ht; cases ht
      cases draw with
      | true =>
        simp only at hq
        cases hok : (okPl ops (planT ops (ops.size + 1) [] (Array.replicate ops.size false)) [] (Array.replicate ops.size false) && edgesDown ops) with
        | false => rw [hok] at hq; exact hq.elim
        | true =>
          rw [hok] at hq; simp only [cond_true] at hq
          exact (awp_plan (P := P) hT hc hm hok hq).mono fun e fr1 h1 ⟨g1, g2⟩ => ⟨fun t _ hw => g1 t (hDS t hw), g2⟩
      | false =>
        simp only at hq
        refine awp_region rfl fun ρ T w a hs => ?_
        refine wpPlan_mono (fun e a2 w2 hh => ?_) _ _ _ (vOps_ok (P := P) hT hc _ fr h hq ρ T w a hs)
        cases e <;> first | exact After.mono (fun fr2 h2 ⟨g1, g2⟩ => ⟨fun t _ hw => g1 t fun i _ => hDS t hw i, g2⟩) hh | exact hh.elim
    | _ => simp [wpC] at hq
theorem wpC_ok (hT : tt.ok P) (hm : P.follows .mixedOrders = true) (hc : WOk P call) (an : Anns) {f : Nat} {c : Code} {Q : APost} {fr : Fr} {h : Heap} (hq : wpC call tt k n an f c Q fr h) : AWp P k n c Q fr h :=
  (wpC_le hT hm hc an f f (Nat.le_refl _) c Q fr h hq).mono fun _ _ _ h => h.2
end

/-! ### Functions -/
abbrev WTr := List AV → Heap → (AV → Heap → Prop) → Prop
abbrev WTbl := List (FuncId × WTr)
def lookW : WTbl → FuncId → Option WTr
  | [], _ => none
  | (f, T) :: r, g => bif Nat.beq f g then some T else lookW r g
/-- Each contract of the table is one. -/
def TblOk (P : Program) (tbl : WTbl) : Prop := ∀ p ∈ tbl, ∀ args h K, p.2 args h K → SpE P p.1 args h K
theorem TblOk.nil {P : Program} : TblOk P [] := fun _ h => by cases h
theorem TblOk.cons {P : Program} {f : FuncId} {T : WTr} {tbl : WTbl} (h1 : ∀ args h K, T args h K → Sp P f args h K) (h2 : TblOk P tbl) : TblOk P ((f, T) :: tbl) := fun p hp => by
  rcases List.mem_cons.1 hp with rfl | hp
  · exact fun args h K hq => .inl (h1 args h K hq)
  · exact h2 p hp
theorem TblOk.consX {P : Program} {f : FuncId} {T : WTr} {tbl : WTbl} (h1 : ∀ args h K, T args h K → XSp P f args h K) (h2 : TblOk P tbl) : TblOk P ((f, T) :: tbl) := fun p hp => by
  rcases List.mem_cons.1 hp with rfl | hp
  · exact fun args h K hq => .inr (h1 args h K hq)
  · exact h2 p hp
theorem TblOk.append {P : Program} {a b : WTbl} (h1 : TblOk P a) (h2 : TblOk P b) : TblOk P (a ++ b) := fun p hp => by
  rcases List.mem_append.1 hp with h | h
  · exact h1 p h
  · exact h2 p h
theorem lookW_mem : ∀ {tbl : WTbl} {g : FuncId} {T : WTr}, lookW tbl g = some T → (g, T) ∈ tbl
  | (f, S) :: r, g, T, h => by
    simp only [lookW] at h
    cases hb : Nat.beq f g <;> rw [hb] at h
    · exact List.mem_cons_of_mem _ (lookW_mem h)
    · simp at h; subst h; rw [Nat.eq_of_beq_eq_true hb]; simp
def retPost (tt : TT) (fn : Func) (K : AV → Heap → Prop) : APost := fun e fr h => bif isDone e then (match retA tt fn fr h with
  | some v => K v h
  | none => False) else False
/-- A call: by the contract, or by the text. -/
def wpF (P : Program) (tbl : WTbl) (tt : TT) (an : FuncId → Anns) (fuel : Nat) : Nat → WFn
  | 0, _, _, _, _ => False
  | d + 1, g, args, h, K => match P.funcs[g]? with
    | some fn => match fn.body with
      | some c => bif !(fn.name == "runtime.NumGoroutine") && Nat.ble args.length fn.ntmps then
          wpC (fun g args h K => match lookW tbl g with
            | some T => T args h K
            | none => wpF P tbl tt an fuel d g args h K) tt h.next fn.ntmps (an g) fuel c (retPost tt fn K) (entryF args) h else False
      | none => False
    | none => False
theorem wpF_ok {P : Program} {tbl : WTbl} {tt : TT} (hT : tt.ok P) (hm : P.follows .mixedOrders = true) (ht : TblOk P tbl) (an : FuncId → Anns) (fuel : Nat) : ∀ d g args h K, wpF P tbl tt an fuel d g args h K → Sp P g args h K
  | 0 => by intro g args h K hq; simp [wpF] at hq
  | d + 1 => by
    intro g args h K hq
    simp only [wpF] at hq
    split at hq
    · rename_i fn hf
      split at hq
      · rename_i c hb
        cases hcnd : (!(fn.name == "runtime.NumGoroutine") && Nat.ble args.length fn.ntmps) <;> rw [hcnd] at hq
        · exact hq.elim
        · simp only [cond_true] at hq
          simp only [Bool.and_eq_true, Bool.not_eq_true'] at hcnd
          have hc : WOk P (fun g args h K => match lookW tbl g with
            | some T => T args h K
            | none => wpF P tbl tt an fuel d g args h K) := by
            intro g args h K hq
            split at hq
            · rename_i T hl; exact ht _ (lookW_mem hl) args h K hq
            · exact .inl (wpF_ok hT hm ht an fuel d g args h K hq)
          refine spec_of_awp hT hf hcnd.1 hb hcnd.2 ((wpC_ok hT hm hc (an g) hq).mono fun e fr h' hh => ?_)
          unfold retPost at hh
          cases hd : isDone e <;> rw [hd] at hh
          · exact hh.elim
          · simp only [cond_true] at hh
            split at hh
            · rename_i v hv
              refine ⟨?_, v, hv, hh⟩
              cases e <;> first | exact .inl rfl | exact .inr rfl | cases hd
            · exact hh.elim
      · exact hq.elim
    · exact hq.elim

/-! ### Ends -/
/-- The answer v, the objects os (the first k have their numbers): nothing else is told. -/
def endP (k : Nat) (v0 : AV) (os : List AObj) (v : AV) (h : Heap) : Prop := go (matO h (os.zipIdx.map fun p => (p.2, p.1)) (matV v0 v []))
where
  go (τ : Tau) : Prop := bif tauEnd k os.length τ && vbelow os.length v0 && obsBelow os.length (os.zipIdx.map fun p => (p.2, p.1)) && Nat.ble k os.length then (eqV τ v0 v ∧ eqOs τ h (os.zipIdx.map fun p => (p.2, p.1))) else False
  /-- Each of them stands for another one. -/
  tauEnd (k N : Nat) (τ : Tau) : Bool := idsOk k ((List.range N).map (tau τ)) N
theorem leq_end {k : Nat} {v0 : AV} {os : List AObj} {v : AV} {h : Heap} (hf : endP k v0 os v h) : Leq k v h v0 (hO os.length os) := by
  unfold endP at hf
  generalize matO h (os.zipIdx.map fun p => (p.2, p.1)) (matV v0 v []) = τ at hf
  unfold endP.go at hf
  cases hb : (endP.tauEnd k os.length τ && vbelow os.length v0 && obsBelow os.length (os.zipIdx.map fun p => (p.2, p.1)) && Nat.ble k os.length) with
  | false => rw [hb] at hf; exact hf.elim
  | true =>
    rw [hb] at hf; simp only [cond_true] at hf
    simp only [Bool.and_eq_true, Nat.ble_eq, obsBelow, List.all_eq_true] at hb
    obtain ⟨⟨⟨b1, b2⟩, b3⟩, b4⟩ := hb
    obtain ⟨t1, t2, t3⟩ := idsOk_spec b1
    have at_ : ∀ i, i < os.length → atL ((List.range os.length).map (tau τ)) i = tau τ i := fun i hi => by
      simp [atL, List.getD_eq_getElem?_getD, hi]
    have hos : ∀ p ∈ os.zipIdx.map (fun p => (p.2, p.1)), eqO τ p.2 (h.get (tau τ p.1)) := by
      have : ∀ obs : List (Nat × AObj), eqOs τ h obs → ∀ p ∈ obs, eqO τ p.2 (h.get (tau τ p.1)) := by
        intro obs
        induction obs with
        | nil => intro _ p hp; cases hp
        | cons x r ih =>
          intro he p hp
          rcases List.mem_cons.1 hp with rfl | hp
          · exact he.1
          · exact ih he.2 p hp
      exact this _ hf.2
    have mem : ∀ i o, os[i]? = some o → (i, o) ∈ os.zipIdx.map (fun p => (p.2, p.1)) := fun i o hi => by
      refine List.mem_map.2 ⟨(o, i), ?_, rfl⟩
      rw [List.mem_zipIdx_iff_getElem?]; exact hi
    refine ⟨b4, fun ρ T w u hR hv => ⟨_, fun i hi => ?_, hR.sub (h' := hOf os) (tau τ) (fun i j hi hj he => t3 i j hi hj (by rw [at_ i hi, at_ j hj]; exact he)) (fun i o0 hi => ?_), ?_⟩⟩
    · have hin : i < (hOf os).next := Nat.lt_of_lt_of_le hi b4
      have := t2 i hi
      rw [at_ i hin] at this
      simp only [if_pos hin, this]
    · rw [hOf_get] at hi
      have hlt := (List.getElem?_eq_some_iff.1 hi).1
      obtain ⟨o', ho', hsoft⟩ := eqO_soft (N := os.length) (b3 _ (mem i o0 hi)) (hos _ (mem i o0 hi))
      exact ⟨hlt, o', ho', hsoft⟩
    · exact eqV_ok (N := os.length) (fun i hi => by
        have : i < (hOf os).next := hi
        simp only [if_pos this]) _ _ _ b2 hf.1 hv
/-- A contract by the text: the answer is v0, and what is left of memory os. -/
theorem sp_end {P : Program} {tbl : WTbl} {tt : TT} (hT : tt.ok P) (hm : P.follows .mixedOrders = true) (ht : TblOk P tbl) (an : FuncId → Anns) (fuel d : Nat) {g : FuncId} {args : List AV} {h : Heap} {v0 : AV} {os : List AObj}
    (hq : wpF P tbl tt an fuel d g args h (fun v h' => endP h.next v0 os v h')) : Sp P g args h (fun v h' => v = v0 ∧ h' = hO os.length os) :=
  sp_leq ((wpF_ok hT hm ht an fuel d g args h _ hq).mono fun _ _ hh => ⟨_, _, leq_end hh, rfl, rfl⟩)
theorem sp_endk {P : Program} {tbl : WTbl} {tt : TT} (hT : tt.ok P) (hm : P.follows .mixedOrders = true) (ht : TblOk P tbl) (an : FuncId → Anns) (fuel d k m : Nat) {g : FuncId} {args : List AV} {h : Heap} {v0 : AV} {os : List AObj} (hk : h.next = k) (hl : os.length = m)
    (hq : wpF P tbl tt an fuel d g args h (fun v h' => endP k v0 os v h')) : Sp P g args h (fun v h' => v = v0 ∧ h' = hO m os) := by
  subst hk hl; exact sp_end hT hm ht an fuel d hq
attribute [irreducible] wpF wpC endP
end Go.Proofs.YtnlpcbdmllpddaaGreat.SE
end
section
/- Views: what a function reads alone, told of a memory of its own. -/
namespace Go.Proofs.YtnlpcbdmllpddaaGreat.SE
open Go
set_option maxRecDepth 4000

theorem Rel.block {h : Heap} {ρ : Ren} {T : Nat → Prop} {w : World} (hR : Rel h ρ T w) {i : Nat} {ob : AObj} {c : Cs} {a : Loc} (hi : h.get i = some ob) (hc : ob.conts = some c) (ha : ρ i = some a) :
    c.size = 0 ∨ ∃ arr e f, w.heap[a.blk]? = some (.cells arr e f) ∧ CRel ρ c arr a.base := by
  obtain ⟨S, h1, _⟩ := hR
  obtain ⟨a', ha', ho⟩ := h1 i ob hi
  obtain rfl : a' = a := Option.some.inj (ha'.symm.trans ha)
  cases ob <;> simp [AObj.conts] at hc
  case cells e c' =>
    subst hc
    obtain ⟨h0, hS, arr, hb, hsz, _, hcr⟩ := ho
    exact .inr ⟨arr, e, _, hb, by rw [h0]; exact hcr⟩
  case room e c' =>
    subst hc
    obtain ⟨h0, hS, arr, hb, hsz, _, hcr⟩ := ho
    exact .inr ⟨arr, e, _, hb, by rw [h0]; exact hcr⟩
  case ro c' =>
    subst hc
    rcases ho with h0 | ⟨hT, arr, e, f, hb, hcr⟩
    · exact .inl h0
    · exact .inr ⟨arr, e, f, hb, hcr⟩
theorem CRel.seg {ρ : Ren} {c d : Cs} {o m b : Nat} {arr : Array Value} (hs : Cs.Seg c o m d) (h : CRel ρ c arr b) : CRel ρ d arr (b + o) := fun k v hk => by
  have hkm : k < m := by rw [← hs.1]; exact Cs.get_lt hk
  rw [Nat.add_assoc]
  exact h _ _ (by rw [← (hs.2 k hkm).1]; exact hk)

/-- A slice of these elements lies there. -/
def ViewAt (w : World) (m : Nat) (new : NewEl) (v : Value) : Prop :=
  ∃ a : Loc, (∀ (ρ : Ren) i, ρ i = some a → VRel ρ (.slR i 0 m new.len) v) ∧ (new.len * m = 0 ∨ ∃ arr e f, w.heap[a.blk]? = some (.cells arr e f) ∧ ∀ ρ, CRel ρ (.row m new.len new.el []) arr a.base)
theorem crel_row {ρ ρ' : Ren} {m n : Nat} {g : Nat → List Value} {wr : List (Nat × List Value)} {arr : Array Value} {b : Nat} (h : CRel ρ (.row m n g wr) arr b) : CRel ρ' (.row m n g wr) arr b := fun k v hk => by
  obtain ⟨u, hu, hr⟩ := h k v hk
  refine ⟨u, hu, ?_⟩
  simp only [Cs.get] at hk
  cases hb : Nat.blt k (n * m) with
  | false => rw [hb] at hk; simp at hk
  | true =>
    rw [hb] at hk; simp only [cond_true] at hk
    split at hk
    · cases hk; simpa only [VRel] using hr
    · cases hk; simp only [VRel]
theorem view_many {h : Heap} {ρ : Ren} {T : Nat → Prop} {w : World} {j q m n c p : Nat} {a : Loc} {ob : AObj} {N : Nat} {g : Nat → List Value} {wr : List (Nat × List Value)} (hR : Rel h ρ T w) (hm : 0 < m) (hi : h.get j = some ob) (hc : ob.conts = some (.row m N g wr)) (ha : ρ j = some a)
    (hle : q + n ≤ N) (hnc : n ≤ c) (hp : n ≠ 0 → p = a.base + q * m) : ViewAt w m (.many n (fun k => Cs.eff g wr (q + k))) (.slice (some ⟨a.blk, p, none⟩) n c) := by
  refine ⟨⟨a.blk, a.base + q * m, a.lim⟩, fun ρ0 i h0 => ?_, ?_⟩
  · simp only [VRel, NewEl.len]
    exact .inr ⟨_, p, c, h0, rfl, hnc, fun hn => by simp only [Nat.zero_mul, Nat.add_zero]; exact hp hn⟩
  · simp only [NewEl.len, NewEl.el]
    rcases hR.block hi hc ha with h0 | ⟨arr, e, f, hb, hcr⟩
    · simp only [Cs.size] at h0
      left
      rcases Nat.mul_eq_zero.1 h0 with h1 | h1
      · have : n = 0 := by omega
        rw [this, Nat.zero_mul]
      · rw [h1, Nat.mul_zero]
    · exact .inr ⟨arr, e, f, hb, fun ρ' => crel_row (CRel.seg (row_seg (n := n) hm hle) hcr)⟩
theorem view_few {h : Heap} {ρ : Ren} {T : Nat → Prop} {w : World} {j o m n c : Nat} {a : Loc} {ob : AObj} {cc d : Cs} {vs : List Value} (hR : Rel h ρ T w) (hm : 0 < m) (hi : h.get j = some ob) (hc : ob.conts = some cc) (ha : ρ j = some a)
    (hs : cc.sub o (n * m) = some d) (hd : ∀ k, d.get k = (Cs.raw vs).get k) (hnc : n ≤ c) : ViewAt w m (.few (chunk m n vs)) (.slice (some ⟨a.blk, a.base + o, none⟩) n c) := by
  have e : (NewEl.few (chunk m n vs)).len = n := chunk_length m n vs
  have hs2 := Cs.sub_spec hs
  refine ⟨⟨a.blk, a.base + o, a.lim⟩, fun ρ0 i h0 => ?_, ?_⟩
  · simp only [VRel, e]
    exact .inr ⟨_, _, c, h0, rfl, hnc, fun _ => by simp⟩
  · rw [e]
    by_cases hz : n * m = 0
    · exact .inl hz
    rcases hR.block hi hc ha with h0 | ⟨arr, e, f, hb, hcr⟩
    · have := hs2.1; omega
    · refine .inr ⟨arr, e, f, hb, fun ρ' k y hk => ?_⟩
      have h3 := CRel.seg hs2.2 hcr
      have hlt := Cs.get_lt hk
      simp only [Cs.size] at hlt
      simp only [Cs.get, nblt_iff.2 hlt, cond_true, Cs.eff, NewEl.el] at hk
      have hkn : k / m < n := Nat.div_lt_of_lt_mul (by rw [Nat.mul_comm]; exact hlt)
      rw [chunk_get m n _ vs hkn, List.getElem?_take, if_pos (Nat.mod_lt _ hm), List.getElem?_drop, Nat.div_add_mod'] at hk
      obtain ⟨_, y0, hy0⟩ := hs2.2.2 k hlt
      have hk0 := (hs2.2.2 k hlt).1
      split at hk
      · rename_i x hx
        cases hk
        obtain ⟨u, hu, hr⟩ := h3 k (.lit x) (by rw [hd]; simp only [Cs.get, hx])
        exact ⟨u, hu, by simpa only [VRel] using hr⟩
      · cases hk
        obtain ⟨u, hu, _⟩ := h3 k y0 (by rw [hk0]; exact hy0)
        exact ⟨u, hu, by simp only [VRel]⟩
def vView (h : Heap) (x : AV) (m : Nat) (Q : NewEl → Prop) : Prop := match x with
  | .lit (.slice none 0 c) => bif Nat.beq c 0 then Q (.few []) else False
  | .lit _ => False
  | x => bif lenCap x then vNew h (nrm x) m Q else False
where
  /-- It is no longer than it may be. -/
  lenCap : AV → Bool
    | .sl _ _ n c => Nat.ble n c
    | _ => true
theorem vView_ok {h : Heap} {ρ : Ren} {T : Nat → Prop} {w : World} {x : AV} {v : Value} {m : Nat} {Q : NewEl → Prop} (hR : Rel h ρ T w) (hm : 0 < m) (hq : vView h x m Q) (hv : VRel ρ x v) : ∃ new, ViewAt w m new v ∧ Q new := by
  unfold vView at hq
  split at hq
  · rename_i c
    cases hb : Nat.beq c 0 with
    | false => rw [hb] at hq; exact hq.elim
    | true =>
      rw [hb] at hq
      have := Nat.eq_of_beq_eq_true hb; subst this
      simp only [VRel] at hv; subst hv
      exact ⟨.few [], ⟨⟨0, 0, 0⟩, fun ρ0 i h0 => by simp [VRel, NewEl.len], .inl (by simp [NewEl.len])⟩, hq⟩
  · exact hq.elim
  rename_i hnl1 hnl2
  cases hcap : vView.lenCap x with
  | false => rw [hcap] at hq; exact hq.elim
  | true =>
  rw [hcap] at hq; simp only [cond_true] at hq
  have hcap : vView.lenCap (nrm x) = true := by cases x <;> exact hcap
  have hnl1 : ∀ c, nrm x = .lit (.slice none 0 c) → False := by cases x <;> first | exact hnl1 | (intro c h; cases h)
  have hnl2 : ∀ v, nrm x = .lit v → False := by cases x <;> first | exact hnl2 | (intro c h; cases h)
  have hv := nrm_rel hv
  generalize nrm x = x at hq hcap hnl1 hnl2 hv
  unfold vNew at hq
  split at hq
  · rename_i j o n c
    simp only [VRel] at hv
    obtain ⟨a, ha, rfl⟩ := hv
    have hnc : n ≤ c := Nat.le_of_ble_eq_true hcap
    cases hb : (Nat.beq o 0 && Nat.beq (rowM h j) m) with
    | true =>
      rw [hb] at hq; simp only [cond_true] at hq
      simp only [Bool.and_eq_true] at hb
      have := Nat.eq_of_beq_eq_true hb.1; subst this
      obtain ⟨ob, N, g, wr, hi, hc, hle, hq⟩ := rowOf_ok hq
      exact ⟨_, view_many hR hm hi hc ha (by omega) hnc (fun _ => by simp), hq⟩
    | false =>
      rw [hb] at hq; simp only [cond_false] at hq
      split at hq
      · rename_i ob hi
        split at hq
        · rename_i c' hc
          split at hq
          · rename_i l hsub
            split at hq
            · rename_i vs hvs
              have := litsOf_spec hvs; subst this
              exact ⟨_, view_few hR hm hi hc ha hsub (fun k => by simp only [Cs.get, List.getElem?_map]; cases vs[k]? <;> rfl) hnc, hq⟩
            · exact hq.elim
          · rename_i vs hsub
            exact ⟨_, view_few hR hm hi hc ha hsub (fun k => rfl) hnc, hq⟩
          · exact hq.elim
        · exact hq.elim
      · exact hq.elim
  · rename_i j q m' n c
    cases hb : Nat.beq m m' with
    | false => rw [hb] at hq; exact hq.elim
    | true =>
      rw [hb] at hq; simp only [cond_true] at hq
      have := Nat.eq_of_beq_eq_true hb; subst this
      simp only [VRel] at hv
      obtain ⟨a, p, ha, rfl, hnc, hp⟩ := hv
      obtain ⟨ob, N, g, wr, hi, hc, hle, hq⟩ := rowOf_ok hq
      exact ⟨_, view_many hR hm hi hc ha hle hnc (fun hn => hp (by omega)), hq⟩
  · rename_i j q m' n
    cases hb : Nat.beq m m' with
    | false => rw [hb] at hq; exact hq.elim
    | true =>
      rw [hb] at hq; simp only [cond_true] at hq
      have := Nat.eq_of_beq_eq_true hb; subst this
      simp only [VRel] at hv
      obtain ⟨a, p, c, ha, rfl, hnc, hp⟩ := hv
      obtain ⟨ob, N, g, wr, hi, hc, hle, hq⟩ := rowOf_ok hq
      exact ⟨_, view_many hR hm hi hc ha hle hnc (fun hn => (hp (by omega)).1), hq⟩
  · rename_i j q m' n
    cases hb : Nat.beq m m' with
    | false => rw [hb] at hq; exact hq.elim
    | true =>
      rw [hb] at hq; simp only [cond_true] at hq
      have := Nat.eq_of_beq_eq_true hb; subst this
      simp only [VRel] at hv
      obtain ⟨ob, N, g, wr, hi, hc, hle, hq⟩ := rowOf_ok hq
      rcases hv with ⟨rfl, rfl⟩ | ⟨a, p, c, ha, rfl, hnc, hp⟩
      · exact ⟨_, ⟨⟨0, 0, 0⟩, fun ρ0 i h0 => by simp [VRel, NewEl.len], .inl (by simp [NewEl.len])⟩, hq⟩
      · exact ⟨_, view_many hR hm hi hc ha hle hnc hp, hq⟩
  · exact (hnl2 _ rfl).elim
  · exact (hnl2 _ rfl).elim
  · exact (hnl2 _ rfl).elim
  · exact hq.elim

theorem Rel.fresh {h : Heap} {ρ : Ren} {T : Nat → Prop} {w w' : World} (hR : Rel h ρ T w) (hk : Keeps (fun b => w.heap.size ≤ b) w w') : Rel h ρ T w' ∧ Keeps T w w' := by
  obtain ⟨S, h1, h2, h3, h4, h5⟩ := hR
  have hsame : ∀ b, b < w.heap.size → w'.heap[b]? = w.heap[b]? := fun b hb => hk.block b (by omega)
  refine ⟨⟨S, fun i o hi => ?_, h2, fun i o b hi hs => ⟨(h3 i o b hi hs).1, Nat.lt_of_lt_of_le (h3 i o b hi hs).2 hk.size⟩, h4, fun b hb => h5 b (Nat.le_trans hk.size hb)⟩, ⟨hk.size, hk.os, hk.tape, hk.output, fun b hb => hsame b (by
    rcases Nat.lt_or_ge b w.heap.size with h | h
    · exact h
    · exact (hb (h5 b h)).elim)⟩⟩
  obtain ⟨a, ha, ho⟩ := h1 i o hi
  refine ⟨a, ha, ho.stays fun b hb => hsame b ?_⟩
  rcases hb with hb | hb
  · exact (h3 i o b hi hb).2
  · rcases Nat.lt_or_ge b w.heap.size with h | h
    · exact h
    · exact (hb (h5 b h)).elim
/-- A call that reads alone, its answer without pointers. -/
theorem sp_view {P : Program} {f : FuncId} {args args0 : List AV} {h : Heap} (m : Nat) (os : List AObj) {r : AV} {K0 : AV → Heap → Prop} (hs : Sp P f args0 (hO m os) K0) (hK : ∀ v h', K0 v h' → v = r) (hm : os.length = m) (hr : ∀ ρ ρ' u, VRel ρ r u → VRel ρ' r u)
    (hview : ∀ ρ T w vs, Rel h ρ T w → LRel ρ args vs → ∃ as, HoldsAll w (fun b => w.heap.size ≤ b) (renOf as) os as ∧ LRel (renOf as) args0 vs) : Sp P f args h (fun v h' => v = r ∧ h' = h) := by
  subst hm
  refine ⟨hs.1, fun ρ T w vs hR hl => ?_⟩
  obtain ⟨as, hh, hl0⟩ := hview ρ T w vs.toList hR hl
  obtain ⟨g1, g2⟩ := hh.get
  have hR0 : Rel (hOf os) (renOf as) (fun b => w.heap.size ≤ b) w := by
    refine ⟨fun _ _ => False, fun i o hi => ?_, fun _ _ _ _ _ _ _ _ h => h.elim, fun _ _ _ _ h => h.elim, fun i hi => ?_, fun _ h => h⟩
    · rw [hOf_get] at hi
      exact g2 i o hi
    · rw [hOf_next] at hi
      simp only [renOf]
      rw [List.getElem?_eq_none]; omega
  refine (hs.2 _ _ w vs hR0 hl0).mono ?_
  rintro e w' ⟨ρ', v, u, h', _, _, _, hu, rfl, hk, hKv⟩
  have := hK _ _ hKv
  subst this
  obtain ⟨a1, a2⟩ := hR.fresh hk
  exact ⟨ρ, v, u, h, fun _ _ => rfl, Nat.le_refl _, a1, hr _ _ _ hu, rfl, a2, rfl, rfl⟩
/-- It holds no pointer. -/
def litsOnly : AV → Bool
  | .lit _ => true
  | .agg l => l.all isLit
  | .tup l => l.all isLit
  | _ => false
where isLit : AV → Bool
  | .lit _ => true
  | _ => false
theorem lrel_lits {ρ ρ' : Ren} : ∀ {l : List AV} {us : List Value}, l.all litsOnly.isLit = true → LRel ρ l us → LRel ρ' l us
  | [], us, _, h => by simpa [LRel] using h
  | a :: l, us, hl, h => by
    simp only [List.all_cons, Bool.and_eq_true] at hl
    simp only [LRel] at h ⊢
    obtain ⟨v, vs', rfl, h1, h2⟩ := h
    refine ⟨v, vs', rfl, ?_, lrel_lits hl.2 h2⟩
    cases a <;> simp [litsOnly.isLit] at hl
    simpa only [VRel] using h1
theorem litsOnly_ok {r : AV} (h : litsOnly r = true) (ρ ρ' : Ren) (u : Value) (hu : VRel ρ r u) : VRel ρ' r u := by
  cases r <;> simp only [litsOnly, Bool.false_eq_true] at h
  · simpa only [VRel] using hu
  · simp only [VRel] at hu ⊢; obtain ⟨vs, rfl, hl⟩ := hu; exact ⟨vs, rfl, lrel_lits h hl⟩
  · simp only [VRel] at hu ⊢; obtain ⟨vs, rfl, hl⟩ := hu; exact ⟨vs, rfl, lrel_lits h hl⟩
/-- A view of one slice. -/
theorem holds_view {w : World} {m : Nat} {new : NewEl} {v : Value} (hv : ViewAt w m new v) {n : Nat} {g : Nat → List Value} (hn : new.len = n) (hg : ∀ k, k < n → new.el k = g k) : ∃ a : Loc, (∀ (ρ : Ren) i, ρ i = some a → VRel ρ (.slR i 0 m n) v) ∧ ∀ ρ, OHolds ρ w (fun b => w.heap.size ≤ b) a (fun _ => False) (.ro (.row m n g [])) := by
  subst hn
  obtain ⟨a, h1, h2⟩ := hv
  refine ⟨a, h1, fun ρ => ?_⟩
  rcases h2 with h2 | ⟨arr, e, f, hb, hc⟩
  · exact .inl h2
  · refine .inr ⟨fun hle => ?_, arr, e, f, hb, fun k x hk => ?_⟩
    · have := (Array.getElem?_eq_some_iff.1 hb).1; omega
    · refine hc ρ k x ?_
      have hlt := Cs.get_lt hk
      simp only [Cs.size] at hlt
      rw [← hk]
      simp only [Cs.get, nblt_iff.2 hlt, cond_true, Cs.eff, hg _ (Nat.div_lt_of_lt_mul (by rw [Nat.mul_comm]; exact hlt))]
theorem lrel_plain {ρ ρ' : Ren} : ∀ {l : List AV} {us : List Value}, l.all litsOnly = true → LRel ρ l us → LRel ρ' l us
  | [], us, _, h => by simpa [LRel] using h
  | a :: l, us, hl, h => by
    simp only [List.all_cons, Bool.and_eq_true] at hl
    simp only [LRel] at h ⊢
    obtain ⟨v, vs', rfl, h1, h2⟩ := h
    exact ⟨v, vs', rfl, litsOnly_ok hl.1 _ _ _ h1, lrel_plain hl.2 h2⟩
/-- A call of plain values, its answer plain. -/
theorem sp_plain {P : Program} {f : FuncId} {args : List AV} (h : Heap) {r : AV} {K0 : AV → Heap → Prop} (hs : Sp P f args (hO 0 []) K0) (hK : ∀ v h', K0 v h' → v = r) (ha : args.all litsOnly = true) (hr : litsOnly r = true) : Sp P f args h (fun v h' => v = r ∧ h' = h) :=
  sp_view 0 [] hs hK rfl (litsOnly_ok hr) fun _ _ _ _ _ hl => ⟨[], trivial, lrel_plain ha hl⟩
/-- A call of one slice that it reads alone. What is read is known only when the memory is. -/
theorem sp_slice {P : Program} {f : FuncId} {x : AV} {h : Heap} {m : Nat} {new : NewEl → Prop} {K : AV → Heap → Prop} (hc : Callable P f) (hm : 0 < m) (hq : vView h x m new)
    (hs : ∀ e, new e → ∃ n g r, e.len = n ∧ (∀ k, k < n → e.el k = g k) ∧ litsOnly r = true ∧ K r h ∧ Sp P f [.slR 0 0 m n] (hO 1 [.ro (.row m n g [])]) (fun v _ => v = r)) : Sp P f [x] h K := by
  refine ⟨hc, fun ρ T w vs hR hl => ?_⟩
  simp only [LRel] at hl
  obtain ⟨v, vs', hvs, hv, rfl⟩ := hl
  obtain ⟨e, hva, he⟩ := vView_ok hR hm hq hv
  obtain ⟨n, g, r, hn, hg, hr, hK, hsp⟩ := hs e he
  obtain ⟨a, ha1, ha2⟩ := holds_view hva hn hg
  have hR0 : Rel (hOf [.ro (.row m n g [])]) (renOf [a]) (fun b => w.heap.size ≤ b) w := by
    refine ⟨fun _ _ => False, fun i o hi => ?_, fun _ _ _ _ _ _ _ _ h => h.elim, fun _ _ _ _ h => h.elim, fun i hi => ?_, fun _ h => h⟩
    · rw [hOf_get] at hi
      cases i with
      | zero => simp at hi; subst hi; exact ⟨a, rfl, ha2 _⟩
      | succ i => simp at hi
    · rw [hOf_next] at hi
      simp only [renOf]
      rw [List.getElem?_eq_none]; simpa using hi
  refine (hsp.2 _ _ w vs hR0 (by rw [hvs]; simp only [LRel]; exact ⟨v, [], rfl, ha1 _ 0 rfl, rfl⟩)).mono ?_
  rintro e' w' ⟨ρ', v', u, h', _, _, _, hu, rfl, hk, hKv⟩
  subst hKv
  obtain ⟨a1, a2⟩ := hR.fresh hk
  exact ⟨ρ, v', u, h, fun _ _ => rfl, Nat.le_refl _, a1, litsOnly_ok hr _ _ _ hu, rfl, a2, hK⟩
end Go.Proofs.YtnlpcbdmllpddaaGreat.SE
end
section
/- A slice that came in, as a row. -/
namespace Go.Proofs.YtnlpcbdmllpddaaGreat.SE
open Go
open Go.ChangeShapes Go.WideShapes Go.ChangeAt Go.RowKit
theorem open_row {H : Type} {enc : TypeId × Value → H} {P : Program} {W : World} {T : Nat → Prop} {t e : TypeId} {v : Value} {d : DataW H} {ps : List MemPlace} {α : Type} {f : α → List Value} {m : Nat} (a0 : α) (ok : α → Prop) (hf : ∀ a, (f a).length = m) (hm : 0 < m)
    (ht : P.underlying t = some (.slice e)) (hc : P.cellsOf e = m) (hok : Value.okWide P W .any 0 t v) (h : DataW.Trod enc P W 0 (fun _ => true) true t v d ps) (hT : ∀ b, b < W.heap.size → ¬ T b)
    (hel : ∀ fuel cs y, DataW.trod enc P W 0 (fun _ => true) true fuel e cs = some y → ∃ a, ok a ∧ cs = f a) :
    ∃ (c : Nat → α) (n : Nat) (a : Loc), n ≤ maxLen ∧ (∀ k, k < n → ok (c k)) ∧ (∀ (ρ : Ren) (i : Nat), ρ i = some a → VRel ρ (.slR i 0 m n) v) ∧ ∀ (ρ : Ren) (S : Nat → Prop), OHolds ρ W T a S (.ro (.row m n (fun k => f (c k)) [])) := by
  obtain ⟨x, cap, a, h1, h2, h3⟩ := open_rows ok hf hm ht hc hok h hT hel
  cases x with
  | none =>
    refine ⟨fun _ => a0, 0, a, Nat.zero_le _, fun k hk => by omega, fun ρ i hi => ?_, fun ρ S => .inl (by simp [Cs.size])⟩
    have := h2 ρ i hi
    simp only [argV, VRel] at this ⊢
    exact .inl ⟨trivial, this⟩
  | some l =>
    obtain ⟨g1, g2, g3⟩ := h1 l rfl
    refine ⟨fun k => l.getD k a0, l.length, a, Nat.le_trans g2 g3, fun k hk => g1 _ (by simp [hk]), fun ρ i hi => ?_, fun ρ S => ?_⟩
    · have := h2 ρ i hi
      simp only [argV, VRel] at this ⊢
      obtain ⟨a', ha', hv⟩ := this
      exact .inr ⟨a', _, cap, ha', hv, g2, fun _ => by simp⟩
    · have := h3 ρ S
      simp only [argO, OHolds, Cs.size] at this ⊢
      rcases this with h0 | ⟨hT', arr, e', f', hb, hcr⟩
      · left; rwa [flat_length hf] at h0
      · refine .inr ⟨hT', arr, e', f', hb, fun k u hk => ?_⟩
        have hlt := Cs.get_lt hk
        simp only [Cs.size] at hlt
        have hkl : k / m < l.length := Nat.div_lt_of_lt_mul (by rw [Nat.mul_comm]; exact hlt)
        have hg : l[k / m]? = some (l.getD (k / m) a0) := by simp [hkl]
        have hfl := flat_get (f := f) hf l (k / m) (k % m) _ hg (Nat.mod_lt _ hm)
        rw [Nat.div_add_mod'] at hfl
        simp only [Cs.get, nblt_iff.2 hlt, cond_true, Cs.eff] at hk
        split at hk
        · rename_i y hy
          cases hk
          refine hcr k (.lit y) ?_
          simp only [Cs.get, hfl, hy]
        · rename_i hy
          have : k % m < (f (l.getD (k / m) a0)).length := by rw [hf]; exact Nat.mod_lt _ hm
          rw [List.getElem?_eq_getElem this] at hy; cases hy
end Go.Proofs.YtnlpcbdmllpddaaGreat.SE
end
section
/- Contracts over a few objects, used in any memory that has such. -/
namespace Go.Proofs.YtnlpcbdmllpddaaGreat.SE
open Go

/-- Does the whole's object say all that the part's does? -/
def fitsS (τ : Nat → Nat) (n : Nat) (o0 o : AObj) : Prop :=
  (isRo o0 = false ∧ Soft τ n o0 o) ∨
  ∃ c0 c, o0 = .ro c0 ∧ o.conts = some c ∧ (c.size = 0 → c0.size = 0) ∧ ∀ ρ ρ0 arr b, (∀ i, i < n → ρ0 i = ρ (τ i)) → CRel ρ c arr b → CRel ρ0 c0 arr b

theorem Rel.part2 {h h0 : Heap} {ρ : Ren} {T : Nat → Prop} {w : World} {S : Nat → Nat → Prop} {τ : Nat → Nat}
    (h1 : ∀ i o, h.get i = some o → ∃ a, ρ i = some a ∧ OHolds ρ w T a (S i) o)
    (h2 : ∀ i j o o' b, h.get i = some o → h.get j = some o' → i ≠ j → S i b → S j b → False)
    (h3 : ∀ i o b, h.get i = some o → S i b → T b ∧ b < w.heap.size)
    (hinj : ∀ i j, i < h0.next → j < h0.next → τ i = τ j → i = j)
    (hfit : ∀ i o0, h0.get i = some o0 → i < h0.next ∧ ∃ o, h.get (τ i) = some o ∧ fitsS τ h0.next o0 o) :
    RelS h0 (fun i => if i < h0.next then ρ (τ i) else none) (fun b => ∃ i o0, h0.get i = some o0 ∧ isRo o0 = false ∧ S (τ i) b) w := by
  have hρ : ∀ i, i < h0.next → (fun i => if i < h0.next then ρ (τ i) else none) i = ρ (τ i) := fun i hi => by simp [hi]
  refine ⟨fun i b => (∃ o0, h0.get i = some o0 ∧ isRo o0 = false) ∧ S (τ i) b, fun i o0 hi => ?_, fun i j o o' b hi hj hij hSi hSj => ?_, fun i o0 b hi hS => ?_, fun i hi => by simp; omega⟩
  · obtain ⟨hlt, o, ho, hf⟩ := hfit i o0 hi
    obtain ⟨a, ha, hh⟩ := h1 _ o ho
    refine ⟨a, by rw [hρ i hlt]; exact ha, ?_⟩
    rcases hf with ⟨hro, hsoft⟩ | ⟨c0, c, rfl, hx, hz, hcc⟩
    · have := hsoft ρ _ w T a (S (τ i)) hρ hh
      have he : (fun b => (∃ o0, h0.get i = some o0 ∧ isRo o0 = false) ∧ S (τ i) b) = S (τ i) := by
        funext b; simp only [hi, Option.some.injEq, exists_eq_left', hro, true_and]
      show OHolds _ w _ a (fun b => (∃ o0, h0.get i = some o0 ∧ isRo o0 = false) ∧ S (τ i) b) o0
      rw [he]
      exact this.turnT hro
    · have notT : ∀ b, (b = a.blk) → (∀ (x : AObj), h.get (τ i) = some x → isRo x = true → ¬ T b) → ¬ ∃ j o1, h0.get j = some o1 ∧ isRo o1 = false ∧ S (τ j) b := by
        intro b hb hT ⟨j, o1, hj, hro1, hSj⟩
        obtain ⟨hjlt, oj, hoj, hfj⟩ := hfit j o1 hj
        by_cases hij : j = i
        · subst hij
          rw [hi] at hj; cases hj; simp [isRo] at hro1
        · have hne : τ j ≠ τ i := fun h' => hij (hinj j i hjlt hlt h')
          subst hb
          cases hro2 : isRo o with
          | true => exact hT o ho hro2 (h3 _ oj _ hoj hSj).1
          | false =>
            have hSi : S (τ i) a.blk := by
              cases o with
              | cells e x => exact hh.2.1
              | room e x => exact hh.2.1
              | ro x => simp [isRo] at hro2
              | map es q => simp [AObj.conts] at hx
              | abs A => simp [AObj.conts] at hx
              | iter m since seen st => simp [AObj.conts] at hx
            exact h2 _ _ _ _ _ hoj ho hne hSj hSi
      cases o with
      | cells e y =>
        simp only [AObj.conts, Option.some.injEq] at hx; subst hx
        obtain ⟨g0, gS, arr, g1, g2, g3, g4⟩ := hh
        refine .inr ⟨notT _ rfl (fun z hz hz' => ?_), arr, e, (0, 0), g1, ?_⟩
        · rw [ho] at hz; cases hz; simp [isRo] at hz'
        · rw [g0]; exact hcc ρ _ arr 0 hρ g4
      | room e y =>
        simp only [AObj.conts, Option.some.injEq] at hx; subst hx
        obtain ⟨g0, gS, arr, g1, g2, g3, g4⟩ := hh
        refine .inr ⟨notT _ rfl (fun z hz hz' => ?_), arr, e, (0, 0), g1, ?_⟩
        · rw [ho] at hz; cases hz; simp [isRo] at hz'
        · rw [g0]; exact hcc ρ _ arr 0 hρ g4
      | ro y =>
        simp only [AObj.conts, Option.some.injEq] at hx; subst hx
        rcases hh with h0 | ⟨gT, arr, e, f, g1, g2⟩
        · exact .inl (hz h0)
        · exact .inr ⟨notT _ rfl (fun z hz hz' => gT), arr, e, f, g1, hcc ρ _ arr _ hρ g2⟩
      | map es q => simp [AObj.conts] at hx
      | abs A => simp [AObj.conts] at hx
      | iter m since seen st => simp [AObj.conts] at hx
  · exact h2 (τ i) (τ j) (Classical.choose (hfit i o hi).2) (Classical.choose (hfit j o' hj).2) b (Classical.choose_spec (hfit i o hi).2).1 (Classical.choose_spec (hfit j o' hj).2).1
      (fun h' => hij (hinj i j (hfit i o hi).1 (hfit j o' hj).1 h')) hSi.2 hSj.2
  · obtain ⟨hlt, x, hx, _⟩ := hfit i o0 hi
    exact ⟨⟨i, o0, hi, by obtain ⟨y, hy, hr⟩ := hS.1; rw [hi] at hy; cases hy; exact hr, hS.2⟩, (h3 _ x b hx hS.2).2⟩

theorem Sp.frame2 {P : Program} {f : FuncId} {args0 args : List AV} {h0 h : Heap} {K0 : AV → Heap → Prop} (τ : Nat → Nat) (hs : Sp P f args0 h0 K0)
    (hfit : ∀ i o0, h0.get i = some o0 → i < h0.next ∧ ∃ o, h.get (τ i) = some o ∧ fitsS τ h0.next o0 o)
    (hinj : ∀ i j, i < h0.next → j < h0.next → τ i = τ j → i = j) (hτ : ∀ i, i < h0.next → τ i < h.next)
    (hargs : ∀ ρ ρ0 u, (∀ i, i < h0.next → ρ0 i = ρ (τ i)) → LRel ρ args u → LRel ρ0 args0 u) :
    Sp P f args h (fun v h' => ∃ v0 h0', K0 v0 h0' ∧ v = vmap (lay τ h0.next h.next) v0 ∧ h' = mergeH τ h0 h h0') := by
  refine ⟨hs.1, fun ρ T w vs hR hl => ?_⟩
  obtain ⟨S, h1, h2, h3, h4, h5⟩ := hR
  have hpart := Rel.part2 (h0 := h0) (τ := τ) h1 h2 h3 hinj hfit
  let ρ0 : Ren := fun i => if i < h0.next then ρ (τ i) else none
  let T0 : Nat → Prop := fun b => ∃ i o0, h0.get i = some o0 ∧ isRo o0 = false ∧ S (τ i) b
  have hρ0 : ∀ i, i < h0.next → ρ0 i = ρ (τ i) := fun i hi => by simp [ρ0, hi]
  have hR0 : Rel h0 ρ0 (fun b => T0 b ∨ w.heap.size ≤ b) w := by
    obtain ⟨S0, r1, r2, r3, r4⟩ := hpart
    refine ⟨S0, fun i o hi => ?_, r2, fun i o b hi hS => ⟨.inl (r3 i o b hi hS).1, (r3 i o b hi hS).2⟩, r4, fun b hb => .inr hb⟩
    obtain ⟨a, ha, hh⟩ := r1 i o hi
    refine ⟨a, ha, ?_⟩
    cases hr : isRo o with
    | false => exact hh.turnT hr
    | true =>
      cases o <;> simp [isRo] at hr
      rcases hh with h0 | ⟨hT, arr, e, f, g1, g2⟩
      · exact .inl h0
      refine .inr ⟨fun hT' => ?_, arr, e, f, g1, g2⟩
      rcases hT' with hT' | hT'
      · exact hT hT'
      · have : a.blk < w.heap.size := (Array.getElem?_eq_some_iff.1 g1).1
        omega
  have hl0 : LRel ρ0 args0 vs.toList := hargs ρ ρ0 _ hρ0 hl
  refine (hs.2 ρ0 _ w vs hR0 hl0).mono ?_
  rintro e w' ⟨ρ0', v0, u, h0', q1, q2, q3, q4, rfl, q5, q6⟩
  have hT0' : ∀ b, T0 b → ∃ i o, i < h0.next ∧ gives h0 i = true ∧ h.get (τ i) = some o ∧ S (τ i) b := by
    rintro b ⟨i, o0, hi, hr, hS⟩
    obtain ⟨hlt, o, ho, _⟩ := hfit i o0 hi
    exact ⟨i, o, hlt, by simp [gives, hi, hr], ho, hS⟩
  have hlow : ∀ j o, h.get j = some o → j < h.next := fun j o hj => by
    obtain ⟨a, ha, _⟩ := h1 j o hj
    rcases Nat.lt_or_ge j h.next with h' | h'
    · exact h'
    · rw [h4 j h'] at ha; cases ha
  obtain ⟨ρ', b1, b2, b3, b4, b5⟩ := Rel.back (h' := mergeH τ h0 h h0') (own := fun i => gives h0 i = true) (τ := τ) (k0 := h0.next) (ρ0' := ρ0') (h0' := noRo h0') (T0 := T0) h1 h2 h3 h4 h5 hT0' hτ q5
    (fun i hi => (q1 i hi).trans (hρ0 i hi)) q2 (q3.relS.less rfl fun i o hi => (noRo_get hi).1)
    (fun i o0 hi hr => by rw [(noRo_get hi).2] at hr; cases hr) (by rw [mergeH_eq]; rfl)
    (fun j o hj => by
      rw [mergeH_eq] at hj
      have hj' : (mergeL (lay τ h0.next h.next) (fun i => Nat.blt i h0.next && !gives h0 i) h0' (List.range h0'.next) h.m).get j = some o := hj
      rcases mergeL_get _ _ h0' _ _ j o hj' with ⟨hm, hne⟩ | ⟨i, o0, hi, hsk, ho0, hr, rfl, rfl⟩
      · refine .inl ⟨hlow j o hm, hm, fun i hik hgv => ?_⟩
        have hi : i ∈ List.range h0'.next := List.mem_range.2 (Nat.lt_of_lt_of_le hik q2)
        have := hne i hi (by simp [hgv])
        simpa [lay, hik] using this
      · refine .inr ⟨i, o0, noRo_of ho0 hr, ?_, rfl, rfl⟩
        simp only [Bool.and_eq_false_iff, Bool.not_eq_false'] at hsk
        rcases hsk with h' | h'
        · refine .inl ?_
          rcases Nat.lt_or_ge i h0.next with hlt | hge
          · rw [nblt_iff.2 hlt] at h'; cases h'
          · exact hge
        · exact .inr h') hinj
  exact ⟨ρ', vmap (lay τ h0.next h.next) v0, u, mergeH τ h0 h h0', b2, by rw [mergeH_eq]; simp, b4, VRel.vmap b3 _ _ q4, rfl, b5, v0, h0', q6, rfl, rfl⟩

/-! ### Contracts -/
/-- An object of the part, and what there is in its place: what is only read may lie anywhere. -/
def eqF (τ : Tau) (o0 : AObj) (x : Option AObj) : Prop := match o0 with
  | .ro c0 => match x with
    | some o => match o.conts with
      | some c => eqC τ c0 c
      | none => False
    | none => False
  | o0 => eqO τ o0 x
def eqFs (τ : Tau) (h : Heap) : Nat → List AObj → Prop
  | _, [] => True
  | i, o :: r => eqF τ o (h.get (tau τ i)) ∧ eqFs τ h (i + 1) r
def matF (h : Heap) : Nat → List AObj → Tau → Tau
  | _, [], τ => τ
  | i, o :: r, τ => matF h (i + 1) r (match o, h.get (tau τ i) with
    | .cells _ (.av l), some (.cells _ (.av m)) => matL l m τ
    | .ro (.av l), some x => (match x.conts with
      | some (.av m) => matL l m τ
      | _ => τ)
    | _, _ => τ)
def ctrTau (k n : Nat) (τ : Tau) : Bool := go ((List.range k).map (tau τ))
where
  go : List Nat → Bool
    | [] => true
    | x :: l => Nat.blt x n && l.all (fun y => !Nat.beq x y) && go l
theorem ctrTau_spec {k n : Nat} {τ : Tau} (h : ctrTau k n τ = true) : (∀ i, i < k → tau τ i < n) ∧ ∀ i j, i < k → j < k → tau τ i = tau τ j → i = j := by
  have key : ∀ l : List Nat, ctrTau.go n l = true → (∀ x ∈ l, x < n) ∧ ∀ (i j a b : Nat), l[i]? = some a → l[j]? = some b → a = b → i = j := by
    intro l
    induction l with
    | nil => intro _; exact ⟨fun x hx => (nomatch hx), fun i j a b ha => by simp at ha⟩
    | cons x l ih =>
      intro hh
      simp only [ctrTau.go, Bool.and_eq_true, List.all_eq_true, Bool.not_eq_true'] at hh
      obtain ⟨⟨h1, h2⟩, h3⟩ := hh
      obtain ⟨i1, i2⟩ := ih h3
      have ne : ∀ (j : Nat) (b : Nat), l[j]? = some b → x ≠ b := fun j b hb he => by
        have := h2 b (List.mem_of_getElem? hb)
        rw [he, Nat.beq_refl] at this; cases this
      refine ⟨fun y hy => ?_, fun i j a b ha hb hab => ?_⟩
      · rcases List.mem_cons.1 hy with rfl | hy
        · exact nblt_iff.1 h1
        · exact i1 y hy
      · cases i with
        | zero =>
          cases j with
          | zero => rfl
          | succ j => simp at ha hb; subst ha; exact (ne j b hb hab).elim
        | succ i =>
          cases j with
          | zero => simp at ha hb; subst hb; exact (ne i a ha hab.symm).elim
          | succ j => simp at ha hb; rw [i2 i j a b ha hb hab]
  obtain ⟨h1, h2⟩ := key _ h
  have at_ : ∀ i, i < k → ((List.range k).map (tau τ))[i]? = some (tau τ i) := fun i hi => by simp [hi]
  exact ⟨fun i hi => h1 _ (List.mem_of_getElem? (at_ i hi)), fun i j hi hj he => h2 i j _ _ (at_ i hi) (at_ j hj) he⟩
def obsB (k : Nat) (os : List AObj) : Bool := os.all fun o => obelow k o
def ctrFit (k : Nat) (args0 : List AV) (os : List AObj) (args : List AV) (h : Heap) (Q : Tau → Prop) : Prop := go (matF h 0 os (matL args0 args []))
where
  go (τ : Tau) : Prop := bif ctrTau k h.next τ && lbelow k args0 && obsB k os then (eqL τ args0 args ∧ eqFs τ h 0 os ∧ Q τ) else False

theorem crel_sized {ρ : Ren} {c : Cs} {arr : Array Value} {b : Nat} (hk : ∀ k, k < c.size → ∃ v, c.get k = some v) (h0 : 0 < c.size) (hc : CRel ρ c arr b) : b + c.size ≤ arr.size := by
  obtain ⟨v, hv⟩ := hk (c.size - 1) (by omega)
  obtain ⟨u, hu, _⟩ := hc _ _ hv
  have := (Array.getElem?_eq_some_iff.1 hu).1
  omega
theorem eqC_free {τ : Tau} {ρ ρ0 : Ren} {N : Nat} (hρ : ∀ i, i < N → ρ0 i = ρ (tau τ i)) {c d : Cs} (hn : cbelow N c = true) (h : eqC τ c d) {arr : Array Value} {b : Nat} (hc : CRel ρ d arr b) : CRel ρ0 c arr b := by
  have hsz := eqC_size h
  rcases Nat.eq_zero_or_pos d.size with h0 | h0
  · intro k v hk
    have := Cs.get_lt hk
    omega
  · refine eqC_ok hρ hn h (crel_sized (fun k hk => ?_) h0 hc) hc
    cases d with
    | av l => exact ⟨l[k], List.getElem?_eq_getElem hk⟩
    | raw l =>
      simp only [Cs.size] at hk
      exact ⟨.lit l[k], by simp only [Cs.get, List.getElem?_eq_getElem hk]⟩
    | tr n z t => cases c <;> simp [eqC] at h
    | row m n g wr => exact row_known hk
theorem eqF_fits {τ : Tau} {N : Nat} {o0 : AObj} {x : Option AObj} (hn : obelow N o0 = true) (h : eqF τ o0 x) : ∃ o, x = some o ∧ fitsS (tau τ) N o0 o := by
  unfold eqF at h
  split at h
  · rename_i c0
    split at h
    · rename_i o
      split at h
      · rename_i c hc
        refine ⟨o, rfl, .inr ⟨c0, c, rfl, hc, fun hz => by rw [eqC_size h]; exact hz, fun ρ ρ0 arr b hρ hcr => eqC_free hρ hn h hcr⟩⟩
      · exact h.elim
    · exact h.elim
  · rename_i hne
    obtain ⟨o, ho, hs⟩ := eqO_soft hn h
    refine ⟨o, ho, .inl ⟨?_, hs⟩⟩
    cases hr : isRo o0 with
    | false => rfl
    | true =>
      cases o0 <;> simp [isRo] at hr
      exact (hne _ rfl).elim

/-- One kind of ends of a call. -/
structure Out (X : Type) where
  Y : Type
  post : X → Y → Prop
  ret : X → Y → AV
  m : Nat
  os : X → Y → List AObj
structure Ctr where
  X : Type
  args : X → List AV
  k : Nat
  os : X → List AObj
  pre : X → Prop
  outs : List (Out X)
def outsP {X : Type} (x : X) (v : AV) (h' : Heap) : List (Out X) → Prop
  | [] => False
  | o :: r => (∃ y, o.post x y ∧ v = o.ret x y ∧ h' = hO o.m (o.os x y)) ∨ outsP x v h' r
def allOuts {X : Type} (x : X) (Q : AV → Heap → Prop) : List (Out X) → Prop
  | [] => True
  | [o] => ∀ y, o.post x y → Q (o.ret x y) (hO o.m (o.os x y))
  | o :: r => (∀ y, o.post x y → Q (o.ret x y) (hO o.m (o.os x y))) ∧ allOuts x Q r
theorem allOuts_ok {X : Type} {x : X} {Q : AV → Heap → Prop} {v : AV} {h' : Heap} : ∀ {l : List (Out X)}, allOuts x Q l → outsP x v h' l → Q v h'
  | [o], ha, hp => by
    rcases hp with ⟨y, h1, rfl, rfl⟩ | hp
    · exact ha y h1
    · exact hp.elim
  | o :: o2 :: r, ha, hp => by
    rcases hp with ⟨y, h1, rfl, rfl⟩ | hp
    · exact ha.1 y h1
    · exact allOuts_ok ha.2 hp
/-- The contract is one of the function. -/
def CtrOk (P : Program) (f : FuncId) (C : Ctr) : Prop := ∀ x, C.pre x → (C.os x).length = C.k ∧ Sp P f (C.args x) (hO C.k (C.os x)) (fun v h' => outsP x v h' C.outs)
def ctrT (C : Ctr) : WTr := fun args h K => ∃ x, C.pre x ∧ ctrFit C.k (C.args x) (C.os x) args h fun τ =>
  allOuts x (fun v h' => K (vmap (lay (tau τ) C.k h.next) v) (mergeH (tau τ) (hO C.k (C.os x)) h h')) C.outs
theorem hO_get {n : Nat} {os : List AObj} (h : os.length = n) (i : Nat) : (hO n os).get i = os[i]? := by
  subst h; exact hOf_get os i
theorem ctrT_ok {P : Program} {f : FuncId} {C : Ctr} (hC : CtrOk P f C) (args : List AV) (h : Heap) (K : AV → Heap → Prop) (hq : ctrT C args h K) : Sp P f args h K := by
  obtain ⟨x, hp, hq⟩ := hq
  obtain ⟨hlen, hs⟩ := hC x hp
  unfold ctrFit at hq
  generalize matF h 0 (C.os x) (matL (C.args x) args []) = τ at hq
  unfold ctrFit.go at hq
  cases hb : (ctrTau C.k h.next τ && lbelow C.k (C.args x) && obsB C.k (C.os x)) with
  | false => rw [hb] at hq; exact hq.elim
  | true =>
    rw [hb] at hq; simp only [cond_true] at hq
    simp only [Bool.and_eq_true] at hb
    obtain ⟨⟨b1, b2⟩, b3⟩ := hb
    obtain ⟨q1, q2, q3⟩ := hq
    obtain ⟨t1, t2⟩ := ctrTau_spec b1
    have hn : (hO C.k (C.os x)).next = C.k := rfl
    have hfs : ∀ (os : List AObj) (i : Nat), eqFs τ h i os → ∀ j o, os[j]? = some o → eqF τ o (h.get (tau τ (i + j))) := by
      intro os
      induction os with
      | nil => intro i _ j o hj; simp at hj
      | cons o os ih =>
        intro i he j o' hj
        cases j with
        | zero => simp at hj; subst hj; exact he.1
        | succ j => simp at hj; have := ih (i + 1) he.2 j o' hj; rwa [show i + 1 + j = i + (j + 1) by omega] at this
    refine (Sp.frame2 (h := h) (args := args) (tau τ) hs (fun i o0 hi => ?_) (fun i j hi hj => t2 i j hi hj) (fun i hi => t1 i hi) (fun ρ ρ0 u hρ hl => eqL_ok hρ _ _ _ b2 q1 hl)).mono ?_
    · rw [hO_get hlen] at hi
      have hlt : i < C.k := by rw [← hlen]; exact (List.getElem?_eq_some_iff.1 hi).1
      refine ⟨hlt, ?_⟩
      have he := hfs _ 0 q2 i o0 hi
      rw [Nat.zero_add] at he
      obtain ⟨o, ho, hf⟩ := eqF_fits (N := C.k) (List.all_eq_true.1 b3 o0 (List.mem_of_getElem? hi)) he
      exact ⟨o, ho, hf⟩
    · rintro v h' ⟨v0, h0', hout, rfl, rfl⟩
      exact allOuts_ok (Q := fun v h' => K (vmap (lay (tau τ) C.k h.next) v) (mergeH (tau τ) (hO C.k (C.os x)) h h')) q3 hout
/-- By one of two. -/
def orT (b : List AV → Bool) (T U : WTr) : WTr := fun args h K => bif b args then T args h K else U args h K
theorem orT_ok {P : Program} {f : FuncId} {b : List AV → Bool} {T U : WTr} (hT : ∀ args h K, T args h K → Sp P f args h K) (hU : ∀ args h K, U args h K → Sp P f args h K) (args : List AV) (h : Heap) (K : AV → Heap → Prop) (hq : orT b T U args h K) : Sp P f args h K := by
  unfold orT at hq
  cases hb : b args with
  | true => rw [hb] at hq; exact hT _ _ _ hq
  | false => rw [hb] at hq; exact hU _ _ _ hq
/-- A contract with one end. -/
def det (X : Type) (args : X → List AV) (k : Nat) (os : X → List AObj) (pre : X → Prop) (ret : X → AV) (m : Nat) (os' : X → List AObj) : Ctr :=
  { X := X, args := args, k := k, os := os, pre := pre, outs := [{ Y := Unit, post := fun _ _ => True, ret := fun x _ => ret x, m := m, os := fun x _ => os' x }] }
/-! ### A contract by the text -/
def endsP (k : Nat) {X : Type} (x : X) (v : AV) (h' : Heap) : List (Out X) → Prop
  | [] => False
  | [o] => ∃ y, o.post x y ∧ endP k (o.ret x y) (o.os x y) v h'
  | o :: r => (∃ y, o.post x y ∧ endP k (o.ret x y) (o.os x y) v h') ∨ endsP k x v h' r
theorem endsP_leq {k : Nat} {X : Type} {x : X} {v : AV} {h' : Heap} : ∀ {l : List (Out X)}, (∀ o ∈ l, ∀ y, (o.os x y).length = o.m) → endsP k x v h' l → ∃ v0 h0, Leq k v h' v0 h0 ∧ outsP x v0 h0 l
  | [o], hl, ⟨y, h1, h2⟩ => ⟨_, _, leq_end h2, .inl ⟨y, h1, rfl, by rw [hl o (by simp) y]⟩⟩
  | o :: o2 :: r, hl, hh => by
    rcases hh with ⟨y, h1, h2⟩ | hh
    · exact ⟨_, _, leq_end h2, .inl ⟨y, h1, rfl, by rw [hl o (by simp) y]⟩⟩
    · obtain ⟨v0, h0, g1, g2⟩ := endsP_leq (l := o2 :: r) (fun o ho => hl o (List.mem_cons_of_mem _ ho)) hh
      exact ⟨v0, h0, g1, .inr g2⟩
theorem ctr_end {P : Program} {tbl : WTbl} {tt : TT} (hT : tt.ok P) (hm : P.follows .mixedOrders = true) (ht : TblOk P tbl) {C : Ctr} (an : C.X → FuncId → Anns) (fuel d : Nat) {f : FuncId}
    (hk : ∀ x, (C.os x).length = C.k) (hl : ∀ x, ∀ o ∈ C.outs, ∀ y, (o.os x y).length = o.m)
    (hq : ∀ x, C.pre x → wpF P tbl tt (an x) fuel d f (C.args x) (hO C.k (C.os x)) (fun v h' => endsP C.k x v h' C.outs)) : CtrOk P f C := fun x hp =>
  ⟨hk x, sp_leq ((wpF_ok hT hm ht (an x) fuel d f _ _ _ (hq x hp)).mono fun v h' hh => by
    obtain ⟨v0, h0, g1, g2⟩ := endsP_leq (hl x) hh
    exact ⟨v0, h0, g1, g2⟩)⟩
theorem det_end {P : Program} {tbl : WTbl} {tt : TT} (hT : tt.ok P) (hm : P.follows .mixedOrders = true) (ht : TblOk P tbl) {X : Type} {args : X → List AV} {k : Nat} {os : X → List AObj} {pre : X → Prop} {ret : X → AV} {m : Nat} {os' : X → List AObj}
    (an : X → FuncId → Anns) (fuel d : Nat) {f : FuncId} (hk : ∀ x, (os x).length = k) (hl : ∀ x, (os' x).length = m)
    (hq : ∀ x, pre x → wpF P tbl tt (an x) fuel d f (args x) (hO k (os x)) (fun v h' => endsP k x v h' (det X args k os pre ret m os').outs)) : CtrOk P f (det X args k os pre ret m os') :=
  ctr_end hT hm ht (C := det X args k os pre ret m os') an fuel d hk (fun x o ho y => by
    have ho := List.mem_singleton.1 ho
    subst ho; exact hl x) hq
attribute [irreducible] outsP
end Go.Proofs.YtnlpcbdmllpddaaGreat.SE
end
section
/- What is asked, in plain words. -/
namespace Go.Proofs.YtnlpcbdmllpddaaGreat.SE
open Go
/-- A value into which the kernel does not look. -/
noncomputable def hid {α : Type} (a : α) : {b : α // b = a} := Classical.choice ⟨⟨a, rfl⟩⟩
noncomputable def hide {α : Type} (a : α) : α := (hid a).1
theorem hide_eq {α : Type} (a : α) : hide a = a := (hid a).2
/-- A proposition into which the kernel does not look. -/
noncomputable def Hd (p : Prop) : Prop := hide p
theorem hd_iff {p : Prop} : Hd p ↔ p := by unfold Hd; rw [hide_eq]
theorem cP_iff {b : Bool} {x y : Prop} : cP b x y ↔ (b = true → x) ∧ (b = false → y) := by cases b <;> simp [cP]
theorem unit_ex {p : Unit → Prop} : (∃ y, p y) ↔ p () := ⟨fun ⟨_, h⟩ => h, fun h => ⟨(), h⟩⟩
theorem unit_all {p : Unit → Prop} : (∀ y, p y) ↔ p () := ⟨fun h => h (), fun h _ => h⟩
theorem I64_iff {z : Int} : I64 z ↔ -9223372036854775808 ≤ z ∧ z ≤ 9223372036854775807 := Iff.rfl
end Go.Proofs.YtnlpcbdmllpddaaGreat.SE
end
section
/- Functions without a Go text: comparing strings, and what is done at one stroke. -/
namespace Go.Proofs.YtnlpcbdmllpddaaGreat.SE
open Go

/-- The numbers of the objects at the ends are right. -/
def lenOk {X : Type} (x : X) : List (Out X) → Prop
  | [] => True
  | o :: r => (∀ y, (o.os x y).length = o.m) ∧ lenOk x r
theorem lenOk_mem {X : Type} {x : X} : ∀ {l : List (Out X)}, lenOk x l → ∀ o ∈ l, ∀ y, (o.os x y).length = o.m
  | o :: r, h, p, hp, y => by
    rcases List.mem_cons.1 hp with rfl | hp
    · exact h.1 y
    · exact lenOk_mem h.2 p hp y
theorem ctr_endL {P : Program} {tbl : WTbl} {tt : TT} (hT : tt.ok P) (hm : P.follows .mixedOrders = true) (ht : TblOk P tbl) {C : Ctr} (an : C.X → FuncId → Anns) (fuel d : Nat) {f : FuncId}
    (hk : ∀ x, (C.os x).length = C.k) (hl : ∀ x, lenOk x C.outs)
    (hq : ∀ x, C.pre x → wpF P tbl tt (an x) fuel d f (C.args x) (hO C.k (C.os x)) (fun v h' => endsP C.k x v h' C.outs)) : CtrOk P f C :=
  ctr_end hT hm ht an fuel d hk (fun x => lenOk_mem (hl x)) hq

/-- Such a function, and what it does. -/
def IsExt (P : Program) (f : FuncId) (e : Array Value → Sem Value) : Prop := ∃ fn, P.funcs[f]? = some fn ∧ (fn.name == "runtime.NumGoroutine") = false ∧ fn.body.isNone = true ∧ Extern.findNext fn = none ∧ Extern.find fn = some e
/-! ### Strings -/
noncomputable def cmpM (a b : ByteArray) : Int := hide (Lib.compareBytes a.data.toList b.data.toList)
theorem compare_less : ∀ a b : List UInt8, (Lib.compareBytes a b < 0 ↔ Op.bytesLess a b = true) ∧ (Lib.compareBytes a b = 0 ↔ a = b)
  | [], [] => by simp [Lib.compareBytes, Op.bytesLess]
  | [], _ :: _ => by simp [Lib.compareBytes, Op.bytesLess]
  | _ :: _, [] => by simp [Lib.compareBytes, Op.bytesLess]
  | a :: as, b :: bs => by
    obtain ⟨h1, h2⟩ := compare_less as bs
    by_cases hlt : a < b
    · have : a ≠ b := fun h => by subst h; exact absurd hlt (UInt8.lt_irrefl _)
      simp [Lib.compareBytes, Op.bytesLess, hlt, this]
    · by_cases hgt : b < a
      · have : a ≠ b := fun h => by subst h; exact absurd hgt (UInt8.lt_irrefl _)
        simp [Lib.compareBytes, Op.bytesLess, hlt, hgt, this]
      · have : a = b := UInt8.le_antisymm (UInt8.not_lt.1 hgt) (UInt8.not_lt.1 hlt)
        subst this
        simp [Lib.compareBytes, Op.bytesLess, hlt, h1, h2]
theorem toList_data (a : ByteArray) : a.toList = a.data.toList := by
  have go : ∀ (n i : Nat) (r : List UInt8), a.size - i = n → ByteArray.toList.loop a i r = r.reverse ++ a.data.toList.drop i := by
    intro n
    induction n with
    | zero =>
      intro i r h
      unfold ByteArray.toList.loop
      rw [if_neg (by omega)]
      have : a.data.toList.length ≤ i := by simp; have : a.data.size = a.size := rfl; omega
      rw [List.drop_eq_nil_of_le this, List.append_nil]
    | succ n ih =>
      intro i r h
      unfold ByteArray.toList.loop
      have hi : i < a.size := by omega
      have hi' : i < a.data.toList.length := by simpa using hi
      rw [if_pos hi, ih (i + 1) _ (by omega), List.drop_eq_getElem_cons hi']
      have : a.get! i = a.data.toList[i] := by
        simp [ByteArray.get!, getElem!_def, Array.getElem?_eq_getElem (show i < a.data.size from hi)]
      simp [this]
  have := go a.size 0 [] rfl
  simpa [ByteArray.toList] using this
theorem cmpM_less (a b : ByteArray) : cmpM a b < 0 ↔ Op.bytesLess a.toList b.toList = true := by
  unfold cmpM; rw [hide_eq, toList_data, toList_data]; exact (compare_less _ _).1
def cmpX : WTr := fun args h K => match args with
  | [.lit (.string a), .lit (.string b)] => K (.lit (.int .i64 (cmpM a b))) h
  | _ => False
theorem cmpX_ok {P : Program} {f : FuncId} (hf : IsExt P f Extern.BytealgCompare.compare) (args : List AV) (h : Heap) (K : AV → Heap → Prop) (hq : cmpX args h K) : XSp P f args h K := by
  obtain ⟨fn, h1, h2, h3, h4, h5⟩ := hf
  unfold cmpX at hq
  split at hq
  · rename_i a b
    intro ρ T w vs hR hl
    simp only [LRel, VRel] at hl
    obtain ⟨_, _, hvs, rfl, _, _, rfl, rfl, rfl⟩ := hl
    have : vs = #[.string a, .string b] := by cases vs; simp at hvs; rw [hvs]
    subst this
    refine ⟨_, _, .int .i64 (cmpM a b), w, ρ, ?_, fun _ _ => rfl, Ren.le_refl _, Nat.le_refl _, hR, by simp only [VRel], Keeps.refl _ _, hq⟩
    rw [run_callFunc_extern h1 h2 h3 h4 h5, Lib.run_compareString]
    unfold cmpM; rw [hide_eq]; rfl
  · exact hq.elim

/-! ### At one stroke -/
theorem Rel.ownCell {h h' : Heap} {ρ : Ren} {T : Nat → Prop} {w : World} (hR : Rel h ρ T w) {i o : Nat} {v : AV} (hs : setCell h i o v = some h') {a : Loc} (ha : ρ i = some a) : w.frozen? ⟨a.blk, a.base + o, none⟩ = false := by
  obtain ⟨S, r1, _⟩ := hR
  unfold setCell at hs
  split at hs
  · rename_i e c hx
    obtain ⟨a', ha', ho⟩ := r1 i _ hx
    obtain rfl : a' = a := Option.some.inj (ha'.symm.trans ha)
    obtain ⟨h0, hS, arr, hb, _⟩ := ho
    simp [World.frozen?, hb]
  · rename_i e c hx
    obtain ⟨a', ha', ho⟩ := r1 i _ hx
    obtain rfl : a' = a := Option.some.inj (ha'.symm.trans ha)
    obtain ⟨h0, hS, arr, hb, _⟩ := ho
    simp [World.frozen?, hb]
  · cases hs
def atI (h : Heap) (a : AV) (k : IntKind) (Q : Nat → Nat → Int → Prop) : Prop := match a with
  | .ptr i o => match cellAt h i o with
    | some (.lit (.int k' x)) => bif decide (k' = k) then Q i o x else False
    | _ => False
  | _ => False
theorem atI_ok {h : Heap} {ρ : Ren} {T : Nat → Prop} {w : World} (hR : Rel h ρ T w) {a : AV} {u : Value} {k : IntKind} {Q : Nat → Nat → Int → Prop} (hq : atI h a k Q) (hu : VRel ρ a u) :
    ∃ i o x b, u = .pointer (some ⟨b.blk, b.base + o, none⟩) ∧ ρ i = some b ∧ w.cell? ⟨b.blk, b.base + o, none⟩ = some (.int k x) ∧ Q i o x := by
  unfold atI at hq
  split at hq
  · rename_i i o
    split at hq
    · rename_i k' x hc
      by_cases hk : k' = k
      · subst hk
        simp only [decide_true, cond_true] at hq
        obtain ⟨b, hb, y, hy, hr⟩ := hR.cell hc
        simp only [VRel] at hr hu
        obtain ⟨b', hb', rfl⟩ := hu
        obtain rfl : b' = b := Option.some.inj (hb'.symm.trans hb)
        subst hr
        exact ⟨i, o, x, b', rfl, hb, hy, hq⟩
      · simp [hk] at hq
    · exact hq.elim
  · exact hq.elim
def putI (h : Heap) (i o : Nat) (k : IntKind) (y : Int) (Q : Heap → Prop) : Prop := match setCell h i o (.lit (.int k y)) with
  | some h' => Q h'
  | none => False
theorem putI_ok {P : Program} {h : Heap} {ρ : Ren} {T : Nat → Prop} {w : World} (hR : Rel h ρ T w) {i o : Nat} {k : IntKind} {y : Int} {Q : Heap → Prop} {b : Loc} (hq : putI h i o k y Q) (hb : ρ i = some b) :
    ∃ h', w.frozen? ⟨b.blk, b.base + o, none⟩ = false ∧ Rel h' ρ T (w.setCell ⟨b.blk, b.base + o, none⟩ (.int k y)) ∧ h'.next = h.next ∧ Keeps T w (w.setCell ⟨b.blk, b.base + o, none⟩ (.int k y)) ∧ Q h' := by
  unfold putI at hq
  split at hq
  · rename_i h' hs
    obtain ⟨_, h2, h3, h4⟩ := setCell_ok (P := P) hR hs hb rfl (u := .int k y) (by simp only [VRel])
    exact ⟨h', hR.ownCell hs hb, h2, h3, h4, hq⟩
  · exact hq.elim
def loadX (k : IntKind) : WTr := fun args h K => match args with
  | [a] => atI h a k fun _ _ x => K (.lit (.int k x)) h
  | _ => False
def storeX (k : IntKind) : WTr := fun args h K => match args with
  | [a, .lit (.int k' y)] => bif decide (k' = k) then atI h a k fun i o _ => putI h i o k y fun h' => K (.tup []) h' else False
  | _ => False
def addX (k : IntKind) : WTr := fun args h K => match args with
  | [a, .lit (.int k' y)] => bif decide (k' = k) then atI h a k fun i o x => arith k (x + y) fun
    | .lit (.int k2 s) => bif decide (k2 = k) then putI h i o k s fun h' => K (.lit (.int k s)) h' else False
    | _ => False else False
  | _ => False
def casX (k : IntKind) : WTr := fun args h K => match args with
  | [a, .lit (.int k' x0), .lit (.int k2 y)] => bif decide (k' = k) && decide (k2 = k) then atI h a k fun i o x => cP (decide (x = x0)) (putI h i o k y fun h' => K (.lit (.bool true)) h') (putI h i o k y fun _ => K (.lit (.bool false)) h) else False
  | _ => False
def swapX (k : IntKind) : WTr := fun args h K => match args with
  | [a, .lit (.int k' y)] => bif decide (k' = k) then atI h a k fun i o x => putI h i o k y fun h' => K (.lit (.int k x)) h' else False
  | _ => False
section
variable {P : Program} {f : FuncId} {k : IntKind} (args : List AV) (h : Heap) (K : AV → Heap → Prop)
theorem vs1 {vs : Array Value} {a : Value} (h : vs.toList = [a]) : vs = #[a] := by cases vs; simp at h; rw [h]
theorem vs2 {vs : Array Value} {a b : Value} (h : vs.toList = [a, b]) : vs = #[a, b] := by cases vs; simp at h; rw [h]
theorem vs3 {vs : Array Value} {a b c : Value} (h : vs.toList = [a, b, c]) : vs = #[a, b, c] := by cases vs; simp at h; rw [h]
theorem loadX_ok (hf : IsExt P f (Extern.Atomic.loadT (.int k))) (hq : loadX k args h K) : XSp P f args h K := by
  obtain ⟨fn, h1, h2, h3, h4, h5⟩ := hf
  unfold loadX at hq
  split at hq
  · intro ρ T w vs hR hl
    simp only [LRel] at hl
    obtain ⟨u, _, hvs, hu, rfl⟩ := hl
    obtain ⟨i, o, x, b, rfl, hb, hc, hq⟩ := atI_ok hR hq hu
    rw [vs1 hvs]
    exact ⟨_, _, _, w, ρ, run_call_load h1 h2 h3 h4 k h5 hc, fun _ _ => rfl, Ren.le_refl _, Nat.le_refl _, hR, by simp only [VRel], Keeps.refl _ _, hq⟩
  · exact hq.elim
theorem storeX_ok (hf : IsExt P f Extern.Atomic.storeT) (hq : storeX k args h K) : XSp P f args h K := by
  obtain ⟨fn, h1, h2, h3, h4, h5⟩ := hf
  unfold storeX at hq
  split at hq
  · rename_i a k' y
    by_cases hk : k' = k
    · subst hk
      simp only [decide_true, cond_true] at hq
      intro ρ T w vs hR hl
      simp only [LRel, VRel] at hl
      obtain ⟨u, _, hvs, hu, _, _, rfl, rfl, rfl⟩ := hl
      obtain ⟨i, o, x, b, rfl, hb, hc, hq⟩ := atI_ok hR hq hu
      obtain ⟨h', g1, g2, g3, g4, hq⟩ := putI_ok (P := P) hR hq hb
      rw [vs2 hvs]
      exact ⟨_, _, _, _, ρ, run_call_store h1 h2 h3 h4 h5 hc g1, fun _ _ => rfl, Ren.le_refl _, by omega, g2, by simp only [VRel]; exact ⟨_, rfl, .nil⟩, g4, hq⟩
    · simp [hk] at hq
  · exact hq.elim
theorem run_add (x y : Int) (w : World) : (Op.intArith .add k x y).run P w = .ok (.int k (k.wrap (x + y))) w := by simp [Op.intArith]
theorem addX_ok (hf : IsExt P f (Extern.Atomic.update (Op.intArith .add) k true)) (hq : addX k args h K) : XSp P f args h K := by
  obtain ⟨fn, h1, h2, h3, h4, h5⟩ := hf
  unfold addX at hq
  split at hq
  · rename_i a k' y
    by_cases hk : k' = k
    · subst hk
      simp only [decide_true, cond_true] at hq
      intro ρ T w vs hR hl
      simp only [LRel, VRel] at hl
      obtain ⟨u, _, hvs, hu, _, _, rfl, rfl, rfl⟩ := hl
      obtain ⟨i, o, x, b, rfl, hb, hc, hq⟩ := atI_ok hR hq hu
      have hq := arith_ok hq
      simp only [decide_true, cond_true] at hq
      obtain ⟨h', g1, g2, g3, g4, hq⟩ := putI_ok (P := P) hR hq hb
      rw [vs2 hvs]
      exact ⟨_, _, _, _, ρ, run_call_add h1 h2 h3 h4 k' h5 hc g1 (run_add _ _ _), fun _ _ => rfl, Ren.le_refl _, by omega, g2, by simp only [VRel], g4, hq⟩
    · simp [hk] at hq
  · exact hq.elim
theorem casX_ok (hf : IsExt P f (Extern.Atomic.casT (.int k))) (hq : casX k args h K) : XSp P f args h K := by
  obtain ⟨fn, h1, h2, h3, h4, h5⟩ := hf
  unfold casX at hq
  split at hq
  · rename_i a k' x0 k2 y
    cases hkk : (decide (k' = k) && decide (k2 = k)) with
    | false => rw [hkk] at hq; exact hq.elim
    | true =>
      simp only [Bool.and_eq_true, decide_eq_true_eq] at hkk
      obtain ⟨rfl, rfl⟩ := hkk
      simp only [decide_true, Bool.and_self, cond_true] at hq
      intro ρ T w vs hR hl
      simp only [LRel, VRel] at hl
      obtain ⟨u, _, hvs, hu, _, _, rfl, rfl, _, _, rfl, rfl, rfl⟩ := hl
      obtain ⟨i, o, x, b, rfl, hb, hc, hq⟩ := atI_ok hR hq hu
      rw [vs3 hvs]
      rcases cP_elim hq with ⟨he, hq2⟩ | ⟨he, hq2⟩
      · have he : x = x0 := of_decide_eq_true he
        obtain ⟨h', g1, g2, g3, g4, hq3⟩ := putI_ok (P := P) hR hq2 hb
        refine ⟨.lit (.bool true), h', .bool true, _, ρ, ?_, fun _ _ => rfl, Ren.le_refl _, by omega, g2, by simp only [VRel], g4, hq3⟩
        rw [← he]
        exact run_call_cas_hit h1 h2 h3 h4 _ h5 hc g1
      · have he := of_decide_eq_false he
        obtain ⟨h', g1, g2, g3, g4, hq3⟩ := putI_ok (P := P) hR hq2 hb
        exact ⟨_, _, _, w, ρ, run_call_cas_miss h1 h2 h3 h4 _ h5 hc g1 he, fun _ _ => rfl, Ren.le_refl _, Nat.le_refl _, hR, by simp only [VRel], Keeps.refl _ _, hq3⟩
  · exact hq.elim
end
end Go.Proofs.YtnlpcbdmllpddaaGreat.SE
end
section
/- A slice within a value that came in, as a row. -/
namespace Go.Proofs.YtnlpcbdmllpddaaGreat.SE
open Go
open Go.ChangeShapes Go.WideShapes Go.ChangeAt Go.RowKit
theorem slice_cells {P : Program} {W : World} {t e : TypeId} {v : Value} (ht : P.underlying t = some (.slice e)) (hok : Cell.okWide P W .any 0 t v) : v.cells.toList = [v] := by
  unfold Cell.okWide at hok
  simp only [ht] at hok
  unfold Cell.ok at hok
  simp only [ht] at hok
  split at hok <;> first | exact hok.elim | (rename_i hh; cases hh; done) | rfl | (rename_i hh; cases hh; rfl)
theorem open_cellZ {H : Type} {enc : TypeId × Value → H} {P : Program} {W : World} {T : Nat → Prop} {t e : TypeId} {v : Value} {fuel : Nat} {y : DataW H × List MemPlace} {α : Type} {f : α → List Value} {m : Nat} (a0 : α) (ok : α → Prop) (hf : ∀ a, (f a).length = m) (hm : 0 < m)
    (ht : P.underlying t = some (.slice e)) (hc : P.cellsOf e = m) (hok : Cell.okWide P W .any 0 t v) (h : DataW.trod enc P W 0 (fun _ => true) true fuel t [v] = some y) (hT : ∀ b, b < W.heap.size → ¬ T b)
    (hel : ∀ fuel cs y, DataW.trod enc P W 0 (fun _ => true) true fuel e cs = some y → ∃ a, ok a ∧ cs = f a) :
    ∃ (z : Bool) (c : Nat → α) (n : Nat) (a : Loc), (z = true → n = 0) ∧ n ≤ maxLen ∧ (∀ k, k < n → ok (c k)) ∧ (∀ (ρ : Ren) (i : Nat), ρ i = some a → VRel ρ (.slZ z i 0 m n) v ∧ VRel ρ (.slR i 0 m n) v) ∧ ∀ (ρ : Ren) (S : Nat → Prop), OHolds ρ W T a S (.ro (.row m n (fun k => f (c k)) [])) := by
  have hok' : Value.okWide P W .any 0 t v := by unfold Value.okWide; simpa only [ht] using hok
  have h' : DataW.Trod enc P W 0 (fun _ => true) true t v y.1 y.2 := ⟨fuel, by rw [slice_cells ht hok]; exact h⟩
  obtain ⟨x, cap, a, h1, h2, h3⟩ := open_rows ok hf hm ht hc hok' h' hT hel
  cases x with
  | none =>
    refine ⟨true, fun _ => a0, 0, a, fun _ => rfl, Nat.zero_le _, fun k hk => by omega, fun ρ i hi => ?_, fun ρ S => .inl (by simp [Cs.size])⟩
    have := h2 ρ i hi
    simp only [argV, VRel] at this ⊢
    exact ⟨.inl ⟨trivial, trivial, this⟩, .inl ⟨trivial, this⟩⟩
  | some l =>
    obtain ⟨g1, g2, g3⟩ := h1 l rfl
    refine ⟨false, fun k => l.getD k a0, l.length, a, fun h => (by cases h), Nat.le_trans g2 g3, fun k hk => g1 _ (by simp [hk]), fun ρ i hi => ?_, fun ρ S => ?_⟩
    · have := h2 ρ i hi
      simp only [argV, VRel] at this ⊢
      obtain ⟨a', ha', hv⟩ := this
      exact ⟨.inr ⟨trivial, a', _, cap, ha', hv, g2, fun _ => by simp⟩, .inr ⟨a', _, cap, ha', hv, g2, fun _ => by simp⟩⟩
    · have := h3 ρ S
      simp only [argO, OHolds, Cs.size] at this ⊢
      rcases this with h0 | ⟨hT', arr, e', f', hb, hcr⟩
      · left; rwa [flat_length hf] at h0
      · refine .inr ⟨hT', arr, e', f', hb, fun k u hk => ?_⟩
        have hlt := Cs.get_lt hk
        simp only [Cs.size] at hlt
        have hkl : k / m < l.length := Nat.div_lt_of_lt_mul (by rw [Nat.mul_comm]; exact hlt)
        have hg : l[k / m]? = some (l.getD (k / m) a0) := by simp [hkl]
        have hfl := flat_get (f := f) hf l (k / m) (k % m) _ hg (Nat.mod_lt _ hm)
        rw [Nat.div_add_mod'] at hfl
        simp only [Cs.get, nblt_iff.2 hlt, cond_true, Cs.eff] at hk
        split at hk
        · rename_i y hy
          cases hk
          refine hcr k (.lit y) ?_
          simp only [Cs.get, hfl, hy]
        · rename_i hy
          have : k % m < (f (l.getD (k / m) a0)).length := by rw [hf]; exact Nat.mod_lt _ hm
          rw [List.getElem?_eq_getElem this] at hy; cases hy
/-- The cells of a struct that came in. -/
theorem row_cell {P : Program} {W : World} {t : TypeId} {cs : Array Value} {ts : List TypeId} (h : Row.okWide P W .any 0 t cs) (ht : P.cellTypes P.depth t = some ts) {i : Nat} {v : Value} {u : TypeId} (hi : cs[i]? = some v) (hu : ts[i % ts.length]? = some u) : Cell.okWide P W .any 0 u v := by
  obtain ⟨ts', e, _, h⟩ := h
  rw [ht] at e; cases e
  obtain ⟨u', hu', hc⟩ := h i v hi
  rw [hu] at hu'; cases hu'
  exact hc
end Go.Proofs.YtnlpcbdmllpddaaGreat.SE
end
