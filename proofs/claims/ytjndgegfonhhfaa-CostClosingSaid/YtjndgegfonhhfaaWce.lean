import Derived.Test.YtjndgegfonhhfaaWca
import Derived.Test.YtjndgegfonhhfaaWcb
import Derived.Test.YtjndgegfonhhfaaWcc
import Derived.Test.YtjndgegfonhhfaaWcd
import Derived.Laws.LoneSync
import Derived.Lib.Bytealg
import Derived.Lib.Overlaps
set_option linter.unusedVariables false
set_option linter.unusedSimpArgs false
set_option linter.unnecessarySimpa false
section
/- Contracts over a few objects, used in any memory that has such. -/
namespace Go.Proofs.Ytjndgegfonhhfaa.SE
open Go

/-- Does the whole's object say all that the part's does? -/
def fitsS (τ : Nat → Nat) (n : Nat) (o0 o : AObj) : Prop :=
  (isRo o0 = false ∧ Soft τ n o0 o) ∨
  ∃ c0 c, o0 = .ro c0 ∧ o.conts = some c ∧ (c.size = 0 → c0.size = 0) ∧ ∀ ρ ρ0 arr b, (∀ i, i < n → ρ0 i = ρ (τ i)) → CRel ρ c arr b → CRel ρ0 c0 arr b

theorem Rel.part2 {h h0 : Heap} {ρ : Ren} {T : Nat → Prop} {w : World} {S : Nat → Nat → Prop} {τ : Nat → Nat}
    (h1 : ∀ i o, h.get i = some o → ∃ a, ρ i = some a ∧ OHolds ρ w T a (S i) o)
    (h2 : ∀ i j o o' b, h.get i = some o → h.get j = some o' → i ≠ j → S i b → S j b → False)
    (h3 : ∀ i o b, h.get i = some o → S i b → T b ∧ b < w.heap.size)
    (hinj : ∀ i j, i < h0.next → j < h0.next → τ i = τ j → i = j)
    (hfit : ∀ i o0, h0.get i = some o0 → i < h0.next ∧ ∃ o, h.get (τ i) = some o ∧ fitsS τ h0.next o0 o) :
    RelS h0 (fun i => if i < h0.next then ρ (τ i) else none) (fun b => ∃ i o0, h0.get i = some o0 ∧ isRo o0 = false ∧ S (τ i) b) w := by
  have hρ : ∀ i, i < h0.next → (fun i => if i < h0.next then ρ (τ i) else none) i = ρ (τ i) := fun i hi => by simp [hi]
  refine ⟨fun i b => (∃ o0, h0.get i = some o0 ∧ isRo o0 = false) ∧ S (τ i) b, fun i o0 hi => ?_, fun i j o o' b hi hj hij hSi hSj => ?_, fun i o0 b hi hS => ?_, fun i hi => by simp; omega⟩
  · obtain ⟨hlt, o, ho, hf⟩ := hfit i o0 hi
    obtain ⟨a, ha, hh⟩ := h1 _ o ho
    refine ⟨a, by rw [hρ i hlt]; exact ha, ?_⟩
    rcases hf with ⟨hro, hsoft⟩ | ⟨c0, c, rfl, hx, hz, hcc⟩
    · have := hsoft ρ _ w T a (S (τ i)) hρ hh
      have he : (fun b => (∃ o0, h0.get i = some o0 ∧ isRo o0 = false) ∧ S (τ i) b) = S (τ i) := by
        funext b; simp only [hi, Option.some.injEq, exists_eq_left', hro, true_and]
      show OHolds _ w _ a (fun b => (∃ o0, h0.get i = some o0 ∧ isRo o0 = false) ∧ S (τ i) b) o0
      rw [he]
      exact this.turnT hro
    · have notT : ∀ b, (b = a.blk) → (∀ (x : AObj), h.get (τ i) = some x → isRo x = true → ¬ T b) → ¬ ∃ j o1, h0.get j = some o1 ∧ isRo o1 = false ∧ S (τ j) b := by
        intro b hb hT ⟨j, o1, hj, hro1, hSj⟩
        obtain ⟨hjlt, oj, hoj, hfj⟩ := hfit j o1 hj
        by_cases hij : j = i
        · subst hij
          rw [hi] at hj; cases hj; simp [isRo] at hro1
        · have hne : τ j ≠ τ i := fun h' => hij (hinj j i hjlt hlt h')
          subst hb
          cases hro2 : isRo o with
          | true => exact hT o ho hro2 (h3 _ oj _ hoj hSj).1
          | false =>
            have hSi : S (τ i) a.blk := by
              cases o with
              | cells e x => exact hh.2.1
              | room e x => exact hh.2.1
              | ro x => simp [isRo] at hro2
              | map es q => simp [AObj.conts] at hx
              | abs A => simp [AObj.conts] at hx
              | iter m since seen st => simp [AObj.conts] at hx
            exact h2 _ _ _ _ _ hoj ho hne hSj hSi
      cases o with
      | cells e y =>
        simp only [AObj.conts, Option.some.injEq] at hx; subst hx
        obtain ⟨g0, gS, arr, g1, g2, g3, g4⟩ := hh
        refine .inr ⟨notT _ rfl (fun z hz hz' => ?_), arr, e, (0, 0), g1, ?_⟩
        · rw [ho] at hz; cases hz; simp [isRo] at hz'
        · rw [g0]; exact hcc ρ _ arr 0 hρ g4
      | room e y =>
        simp only [AObj.conts, Option.some.injEq] at hx; subst hx
        obtain ⟨g0, gS, arr, g1, g2, g3, g4⟩ := hh
        refine .inr ⟨notT _ rfl (fun z hz hz' => ?_), arr, e, (0, 0), g1, ?_⟩
        · rw [ho] at hz; cases hz; simp [isRo] at hz'
        · rw [g0]; exact hcc ρ _ arr 0 hρ g4
      | ro y =>
        simp only [AObj.conts, Option.some.injEq] at hx; subst hx
        rcases hh with h0 | ⟨gT, arr, e, f, g1, g2⟩
        · exact .inl (hz h0)
        · exact .inr ⟨notT _ rfl (fun z hz hz' => gT), arr, e, f, g1, hcc ρ _ arr _ hρ g2⟩
      | map es q => simp [AObj.conts] at hx
      | abs A => simp [AObj.conts] at hx
      | iter m since seen st => simp [AObj.conts] at hx
  · exact h2 (τ i) (τ j) (Classical.choose (hfit i o hi).2) (Classical.choose (hfit j o' hj).2) b (Classical.choose_spec (hfit i o hi).2).1 (Classical.choose_spec (hfit j o' hj).2).1
      (fun h' => hij (hinj i j (hfit i o hi).1 (hfit j o' hj).1 h')) hSi.2 hSj.2
  · obtain ⟨hlt, x, hx, _⟩ := hfit i o0 hi
    exact ⟨⟨i, o0, hi, by obtain ⟨y, hy, hr⟩ := hS.1; rw [hi] at hy; cases hy; exact hr, hS.2⟩, (h3 _ x b hx hS.2).2⟩

theorem Sp.frame2 {P : Program} {f : FuncId} {args0 args : List AV} {h0 h : Heap} {K0 : AV → Heap → Prop} (τ : Nat → Nat) (hs : Sp P f args0 h0 K0)
    (hfit : ∀ i o0, h0.get i = some o0 → i < h0.next ∧ ∃ o, h.get (τ i) = some o ∧ fitsS τ h0.next o0 o)
    (hinj : ∀ i j, i < h0.next → j < h0.next → τ i = τ j → i = j) (hτ : ∀ i, i < h0.next → τ i < h.next)
    (hargs : ∀ ρ ρ0 u, (∀ i, i < h0.next → ρ0 i = ρ (τ i)) → LRel ρ args u → LRel ρ0 args0 u) :
    Sp P f args h (fun v h' => ∃ v0 h0', K0 v0 h0' ∧ v = vmap (lay τ h0.next h.next) v0 ∧ h' = mergeH τ h0 h h0') := by
  refine ⟨hs.1, fun ρ T w vs hR hl => ?_⟩
  obtain ⟨S, h1, h2, h3, h4, h5⟩ := hR
  have hpart := Rel.part2 (h0 := h0) (τ := τ) h1 h2 h3 hinj hfit
  let ρ0 : Ren := fun i => if i < h0.next then ρ (τ i) else none
  let T0 : Nat → Prop := fun b => ∃ i o0, h0.get i = some o0 ∧ isRo o0 = false ∧ S (τ i) b
  have hρ0 : ∀ i, i < h0.next → ρ0 i = ρ (τ i) := fun i hi => by simp [ρ0, hi]
  have hR0 : Rel h0 ρ0 (fun b => T0 b ∨ w.heap.size ≤ b) w := by
    obtain ⟨S0, r1, r2, r3, r4⟩ := hpart
    refine ⟨S0, fun i o hi => ?_, r2, fun i o b hi hS => ⟨.inl (r3 i o b hi hS).1, (r3 i o b hi hS).2⟩, r4, fun b hb => .inr hb⟩
    obtain ⟨a, ha, hh⟩ := r1 i o hi
    refine ⟨a, ha, ?_⟩
    cases hr : isRo o with
    | false => exact hh.turnT hr
    | true =>
      cases o <;> simp [isRo] at hr
      rcases hh with h0 | ⟨hT, arr, e, f, g1, g2⟩
      · exact .inl h0
      refine .inr ⟨fun hT' => ?_, arr, e, f, g1, g2⟩
      rcases hT' with hT' | hT'
      · exact hT hT'
      · have : a.blk < w.heap.size := (Array.getElem?_eq_some_iff.1 g1).1
        omega
  have hl0 : LRel ρ0 args0 vs.toList := hargs ρ ρ0 _ hρ0 hl
  refine (hs.2 ρ0 _ w vs hR0 hl0).mono ?_
  rintro e w' ⟨ρ0', v0, u, h0', q1, q2, q3, q4, rfl, q5, q6⟩
  have hT0' : ∀ b, T0 b → ∃ i o, i < h0.next ∧ gives h0 i = true ∧ h.get (τ i) = some o ∧ S (τ i) b := by
    rintro b ⟨i, o0, hi, hr, hS⟩
    obtain ⟨hlt, o, ho, _⟩ := hfit i o0 hi
    exact ⟨i, o, hlt, by simp [gives, hi, hr], ho, hS⟩
  have hlow : ∀ j o, h.get j = some o → j < h.next := fun j o hj => by
    obtain ⟨a, ha, _⟩ := h1 j o hj
    rcases Nat.lt_or_ge j h.next with h' | h'
    · exact h'
    · rw [h4 j h'] at ha; cases ha
  obtain ⟨ρ', b1, b2, b3, b4, b5⟩ := Rel.back (h' := mergeH τ h0 h h0') (own := fun i => gives h0 i = true) (τ := τ) (k0 := h0.next) (ρ0' := ρ0') (h0' := noRo h0') (T0 := T0) h1 h2 h3 h4 h5 hT0' hτ q5
    (fun i hi => (q1 i hi).trans (hρ0 i hi)) q2 (q3.relS.less rfl fun i o hi => (noRo_get hi).1)
    (fun i o0 hi hr => by rw [(noRo_get hi).2] at hr; cases hr) (by rw [mergeH_eq]; rfl)
    (fun j o hj => by
      rw [mergeH_eq] at hj
      have hj' : (mergeL (lay τ h0.next h.next) (fun i => Nat.blt i h0.next && !gives h0 i) h0' (List.range h0'.next) h.m).get j = some o := hj
      rcases mergeL_get _ _ h0' _ _ j o hj' with ⟨hm, hne⟩ | ⟨i, o0, hi, hsk, ho0, hr, rfl, rfl⟩
      · refine .inl ⟨hlow j o hm, hm, fun i hik hgv => ?_⟩
        have hi : i ∈ List.range h0'.next := List.mem_range.2 (Nat.lt_of_lt_of_le hik q2)
        have := hne i hi (by simp [hgv])
        simpa [lay, hik] using this
      · refine .inr ⟨i, o0, noRo_of ho0 hr, ?_, rfl, rfl⟩
        simp only [Bool.and_eq_false_iff, Bool.not_eq_false'] at hsk
        rcases hsk with h' | h'
        · refine .inl ?_
          rcases Nat.lt_or_ge i h0.next with hlt | hge
          · rw [nblt_iff.2 hlt] at h'; cases h'
          · exact hge
        · exact .inr h') hinj
  exact ⟨ρ', vmap (lay τ h0.next h.next) v0, u, mergeH τ h0 h h0', b2, by rw [mergeH_eq]; simp, b4, VRel.vmap b3 _ _ q4, rfl, b5, v0, h0', q6, rfl, rfl⟩

/-! ### Contracts -/
/-- An object of the part, and what there is in its place: what is only read may lie anywhere. -/
def eqF (τ : Tau) (o0 : AObj) (x : Option AObj) : Prop := match o0 with
  | .ro c0 => match x with
    | some o => match o.conts with
      | some c => eqC τ c0 c
      | none => False
    | none => False
  | o0 => eqO τ o0 x
def eqFs (τ : Tau) (h : Heap) : Nat → List AObj → Prop
  | _, [] => True
  | i, o :: r => eqF τ o (h.get (tau τ i)) ∧ eqFs τ h (i + 1) r
def matF (h : Heap) : Nat → List AObj → Tau → Tau
  | _, [], τ => τ
  | i, o :: r, τ => matF h (i + 1) r (match o, h.get (tau τ i) with
    | .cells _ c, some (.cells _ d) => matC c d τ
    | .ro (.av l), some x => (match x.conts with
      | some (.av m) => matL l m τ
      | _ => τ)
    | _, _ => τ)
def ctrTau (k n : Nat) (τ : Tau) : Bool := go ((List.range k).map (tau τ))
where
  go : List Nat → Bool
    | [] => true
    | x :: l => Nat.blt x n && l.all (fun y => !Nat.beq x y) && go l
theorem ctrTau_spec {k n : Nat} {τ : Tau} (h : ctrTau k n τ = true) : (∀ i, i < k → tau τ i < n) ∧ ∀ i j, i < k → j < k → tau τ i = tau τ j → i = j := by
  have key : ∀ l : List Nat, ctrTau.go n l = true → (∀ x ∈ l, x < n) ∧ ∀ (i j a b : Nat), l[i]? = some a → l[j]? = some b → a = b → i = j := by
    intro l
    induction l with
    | nil => intro _; exact ⟨fun x hx => (nomatch hx), fun i j a b ha => by simp at ha⟩
    | cons x l ih =>
      intro hh
      simp only [ctrTau.go, Bool.and_eq_true, List.all_eq_true, Bool.not_eq_true'] at hh
      obtain ⟨⟨h1, h2⟩, h3⟩ := hh
      obtain ⟨i1, i2⟩ := ih h3
      have ne : ∀ (j : Nat) (b : Nat), l[j]? = some b → x ≠ b := fun j b hb he => by
        have := h2 b (List.mem_of_getElem? hb)
        rw [he, Nat.beq_refl] at this; cases this
      refine ⟨fun y hy => ?_, fun i j a b ha hb hab => ?_⟩
      · rcases List.mem_cons.1 hy with rfl | hy
        · exact nblt_iff.1 h1
        · exact i1 y hy
      · cases i with
        | zero =>
          cases j with
          | zero => rfl
          | succ j => simp at ha hb; subst ha; exact (ne j b hb hab).elim
        | succ i =>
          cases j with
          | zero => simp at ha hb; subst hb; exact (ne i a ha hab.symm).elim
          | succ j => simp at ha hb; rw [i2 i j a b ha hb hab]
  obtain ⟨h1, h2⟩ := key _ h
  have at_ : ∀ i, i < k → ((List.range k).map (tau τ))[i]? = some (tau τ i) := fun i hi => by simp [hi]
  exact ⟨fun i hi => h1 _ (List.mem_of_getElem? (at_ i hi)), fun i j hi hj he => h2 i j _ _ (at_ i hi) (at_ j hj) he⟩
def obsB (k : Nat) (os : List AObj) : Bool := os.all fun o => obelow k o
def ctrFit (k : Nat) (args0 : List AV) (os : List AObj) (args : List AV) (h : Heap) (Q : Tau → Prop) : Prop := go (matF h 0 os (matL args0 args []))
where
  go (τ : Tau) : Prop := bif ctrTau k h.next τ && lbelow k args0 && obsB k os then (eqL τ args0 args ∧ eqFs τ h 0 os ∧ Q τ) else False

theorem crel_sized {ρ : Ren} {c : Cs} {arr : Array Value} {b : Nat} (hk : ∀ k, k < c.size → ∃ v, c.get k = some v) (h0 : 0 < c.size) (hc : CRel ρ c arr b) : b + c.size ≤ arr.size := by
  obtain ⟨v, hv⟩ := hk (c.size - 1) (by omega)
  obtain ⟨u, hu, _⟩ := hc _ _ hv
  have := (Array.getElem?_eq_some_iff.1 hu).1
  omega
theorem eqC_free1 {τ : Tau} {ρ ρ0 : Ren} {N : Nat} (hρ : ∀ i, i < N → ρ0 i = ρ (tau τ i)) {c d : Cs} (hn : cbelow N c = true) (h : eqC τ c d) (hnc : ∀ x y, c ≠ .cat x y) {arr : Array Value} {b : Nat} (hc : CRel ρ d arr b) : CRel ρ0 c arr b := by
  have hsz := eqC_size h
  rcases Nat.eq_zero_or_pos d.size with h0 | h0
  · intro k v hk
    have := Cs.get_lt hk
    omega
  · refine eqC_ok hρ hn h (crel_sized (fun k hk => ?_) h0 hc) hc
    cases d with
    | av l => exact ⟨l[k], List.getElem?_eq_getElem hk⟩
    | raw l =>
      simp only [Cs.size] at hk
      exact ⟨.lit l[k], by simp only [Cs.get, List.getElem?_eq_getElem hk]⟩
    | tr n z t => cases c <;> simp [eqC] at h
    | row m n g wr => exact row_known hk
    | cat x y =>
      cases c with
      | cat x' y' => exact (hnc _ _ rfl).elim
      | _ => simp [eqC] at h
theorem eqC_free {τ : Tau} {ρ ρ0 : Ren} {N : Nat} (hρ : ∀ i, i < N → ρ0 i = ρ (tau τ i)) : ∀ {c d : Cs}, cbelow N c = true → eqC τ c d → ∀ {arr : Array Value} {b : Nat}, CRel ρ d arr b → CRel ρ0 c arr b := by
  intro c
  induction c with
  | cat x y ihx ihy =>
    intro d hn h arr b hc
    cases d with
    | cat x' y' =>
      simp only [eqC] at h
      simp only [cbelow, Bool.and_eq_true] at hn
      rw [crel_cat] at hc ⊢
      have hx := eqC_size h.1
      exact ⟨ihx hn.1 h.1 hc.1, by rw [hx]; exact ihy hn.2 h.2 hc.2⟩
    | _ => simp [eqC] at h
  | _ => intro d hn h arr b hc; exact eqC_free1 hρ hn h (fun _ _ hh => by cases hh) hc
theorem eqF_fits {τ : Tau} {N : Nat} {o0 : AObj} {x : Option AObj} (hn : obelow N o0 = true) (h : eqF τ o0 x) : ∃ o, x = some o ∧ fitsS (tau τ) N o0 o := by
  unfold eqF at h
  split at h
  · rename_i c0
    split at h
    · rename_i o
      split at h
      · rename_i c hc
        refine ⟨o, rfl, .inr ⟨c0, c, rfl, hc, fun hz => by rw [eqC_size h]; exact hz, fun ρ ρ0 arr b hρ hcr => eqC_free hρ hn h hcr⟩⟩
      · exact h.elim
    · exact h.elim
  · rename_i hne
    obtain ⟨o, ho, hs⟩ := eqO_soft hn h
    refine ⟨o, ho, .inl ⟨?_, hs⟩⟩
    cases hr : isRo o0 with
    | false => rfl
    | true =>
      cases o0 <;> simp [isRo] at hr
      exact (hne _ rfl).elim

/-- One kind of ends of a call. -/
structure Out (X : Type) where
  Y : Type
  post : X → Y → Prop
  ret : X → Y → AV
  m : Nat
  os : X → Y → List AObj
structure Ctr where
  X : Type
  args : X → List AV
  k : Nat
  os : X → List AObj
  pre : X → Prop
  outs : List (Out X)
def outsP {X : Type} (x : X) (v : AV) (h' : Heap) : List (Out X) → Prop
  | [] => False
  | o :: r => (∃ y, o.post x y ∧ v = o.ret x y ∧ h' = hO o.m (o.os x y)) ∨ outsP x v h' r
def allOuts {X : Type} (x : X) (Q : AV → Heap → Prop) : List (Out X) → Prop
  | [] => True
  | [o] => ∀ y, o.post x y → Q (o.ret x y) (hO o.m (o.os x y))
  | o :: r => (∀ y, o.post x y → Q (o.ret x y) (hO o.m (o.os x y))) ∧ allOuts x Q r
theorem allOuts_ok {X : Type} {x : X} {Q : AV → Heap → Prop} {v : AV} {h' : Heap} : ∀ {l : List (Out X)}, allOuts x Q l → outsP x v h' l → Q v h'
  | [o], ha, hp => by
    rcases hp with ⟨y, h1, rfl, rfl⟩ | hp
    · exact ha y h1
    · exact hp.elim
  | o :: o2 :: r, ha, hp => by
    rcases hp with ⟨y, h1, rfl, rfl⟩ | hp
    · exact ha.1 y h1
    · exact allOuts_ok ha.2 hp
/-- The contract is one of the function. -/
def CtrOk (P : Program) (f : FuncId) (C : Ctr) : Prop := ∀ x, C.pre x → (C.os x).length = C.k ∧ Sp P f (C.args x) (hO C.k (C.os x)) (fun v h' => outsP x v h' C.outs)
def ctrT (C : Ctr) : WTr := fun args h K => ∃ x, C.pre x ∧ ctrFit C.k (C.args x) (C.os x) args h fun τ =>
  allOuts x (fun v h' => K (vmap (lay (tau τ) C.k h.next) v) (mergeH (tau τ) (hO C.k (C.os x)) h h')) C.outs
theorem hO_get {n : Nat} {os : List AObj} (h : os.length = n) (i : Nat) : (hO n os).get i = os[i]? := by
  subst h; exact hOf_get os i
theorem ctrT_ok {P : Program} {f : FuncId} {C : Ctr} (hC : CtrOk P f C) (args : List AV) (h : Heap) (K : AV → Heap → Prop) (hq : ctrT C args h K) : Sp P f args h K := by
  obtain ⟨x, hp, hq⟩ := hq
  obtain ⟨hlen, hs⟩ := hC x hp
  unfold ctrFit at hq
  generalize matF h 0 (C.os x) (matL (C.args x) args []) = τ at hq
  unfold ctrFit.go at hq
  cases hb : (ctrTau C.k h.next τ && lbelow C.k (C.args x) && obsB C.k (C.os x)) with
  | false => rw [hb] at hq; exact hq.elim
  | true =>
    rw [hb] at hq; simp only [cond_true] at hq
    simp only [Bool.and_eq_true] at hb
    obtain ⟨⟨b1, b2⟩, b3⟩ := hb
    obtain ⟨q1, q2, q3⟩ := hq
    obtain ⟨t1, t2⟩ := ctrTau_spec b1
    have hn : (hO C.k (C.os x)).next = C.k := rfl
    have hfs : ∀ (os : List AObj) (i : Nat), eqFs τ h i os → ∀ j o, os[j]? = some o → eqF τ o (h.get (tau τ (i + j))) := by
      intro os
      induction os with
      | nil => intro i _ j o hj; simp at hj
      | cons o os ih =>
        intro i he j o' hj
        cases j with
        | zero => simp at hj; subst hj; exact he.1
        | succ j => simp at hj; have := ih (i + 1) he.2 j o' hj; rwa [show i + 1 + j = i + (j + 1) by omega] at this
    refine (Sp.frame2 (h := h) (args := args) (tau τ) hs (fun i o0 hi => ?_) (fun i j hi hj => t2 i j hi hj) (fun i hi => t1 i hi) (fun ρ ρ0 u hρ hl => eqL_ok hρ _ _ _ b2 q1 hl)).mono ?_
    · rw [hO_get hlen] at hi
      have hlt : i < C.k := by rw [← hlen]; exact (List.getElem?_eq_some_iff.1 hi).1
      refine ⟨hlt, ?_⟩
      have he := hfs _ 0 q2 i o0 hi
      rw [Nat.zero_add] at he
      obtain ⟨o, ho, hf⟩ := eqF_fits (N := C.k) (List.all_eq_true.1 b3 o0 (List.mem_of_getElem? hi)) he
      exact ⟨o, ho, hf⟩
    · rintro v h' ⟨v0, h0', hout, rfl, rfl⟩
      exact allOuts_ok (Q := fun v h' => K (vmap (lay (tau τ) C.k h.next) v) (mergeH (tau τ) (hO C.k (C.os x)) h h')) q3 hout
/-- By one of two. -/
def orT (b : List AV → Bool) (T U : WTr) : WTr := fun args h K => bif b args then T args h K else U args h K
theorem orT_ok {P : Program} {f : FuncId} {b : List AV → Bool} {T U : WTr} (hT : ∀ args h K, T args h K → Sp P f args h K) (hU : ∀ args h K, U args h K → Sp P f args h K) (args : List AV) (h : Heap) (K : AV → Heap → Prop) (hq : orT b T U args h K) : Sp P f args h K := by
  unfold orT at hq
  cases hb : b args with
  | true => rw [hb] at hq; exact hT _ _ _ hq
  | false => rw [hb] at hq; exact hU _ _ _ hq
/-- A contract with one end. -/
def det (X : Type) (args : X → List AV) (k : Nat) (os : X → List AObj) (pre : X → Prop) (ret : X → AV) (m : Nat) (os' : X → List AObj) : Ctr :=
  { X := X, args := args, k := k, os := os, pre := pre, outs := [{ Y := Unit, post := fun _ _ => True, ret := fun x _ => ret x, m := m, os := fun x _ => os' x }] }
/-! ### A contract by the text -/
def endsP (k : Nat) {X : Type} (x : X) (v : AV) (h' : Heap) : List (Out X) → Prop
  | [] => False
  | [o] => ∃ y, o.post x y ∧ endP k (o.ret x y) (o.os x y) v h'
  | o :: r => (∃ y, o.post x y ∧ endP k (o.ret x y) (o.os x y) v h') ∨ endsP k x v h' r
theorem endsP_leq {k : Nat} {X : Type} {x : X} {v : AV} {h' : Heap} : ∀ {l : List (Out X)}, (∀ o ∈ l, ∀ y, (o.os x y).length = o.m) → endsP k x v h' l → ∃ v0 h0, Leq k v h' v0 h0 ∧ outsP x v0 h0 l
  | [o], hl, ⟨y, h1, h2⟩ => ⟨_, _, leq_end h2, .inl ⟨y, h1, rfl, by rw [hl o (by simp) y]⟩⟩
  | o :: o2 :: r, hl, hh => by
    rcases hh with ⟨y, h1, h2⟩ | hh
    · exact ⟨_, _, leq_end h2, .inl ⟨y, h1, rfl, by rw [hl o (by simp) y]⟩⟩
    · obtain ⟨v0, h0, g1, g2⟩ := endsP_leq (l := o2 :: r) (fun o ho => hl o (List.mem_cons_of_mem _ ho)) hh
      exact ⟨v0, h0, g1, .inr g2⟩
theorem ctr_end {P : Program} {tbl : WTbl} {tt : TT} (hT : tt.ok P) (hm : P.follows .mixedOrders = true) (ht : TblOk P tbl) {C : Ctr} (an : C.X → FuncId → Anns) (fuel d : Nat) {f : FuncId}
    (hk : ∀ x, (C.os x).length = C.k) (hl : ∀ x, ∀ o ∈ C.outs, ∀ y, (o.os x y).length = o.m)
    (hq : ∀ x, C.pre x → wpF P tbl tt (an x) fuel d f (C.args x) (hO C.k (C.os x)) (fun v h' => endsP C.k x v h' C.outs)) : CtrOk P f C := fun x hp =>
  ⟨hk x, sp_leq ((wpF_ok hT hm ht (an x) fuel d f _ _ _ (hq x hp)).mono fun v h' hh => by
    obtain ⟨v0, h0, g1, g2⟩ := endsP_leq (hl x) hh
    exact ⟨v0, h0, g1, g2⟩)⟩
theorem det_end {P : Program} {tbl : WTbl} {tt : TT} (hT : tt.ok P) (hm : P.follows .mixedOrders = true) (ht : TblOk P tbl) {X : Type} {args : X → List AV} {k : Nat} {os : X → List AObj} {pre : X → Prop} {ret : X → AV} {m : Nat} {os' : X → List AObj}
    (an : X → FuncId → Anns) (fuel d : Nat) {f : FuncId} (hk : ∀ x, (os x).length = k) (hl : ∀ x, (os' x).length = m)
    (hq : ∀ x, pre x → wpF P tbl tt (an x) fuel d f (args x) (hO k (os x)) (fun v h' => endsP k x v h' (det X args k os pre ret m os').outs)) : CtrOk P f (det X args k os pre ret m os') :=
  ctr_end hT hm ht (C := det X args k os pre ret m os') an fuel d hk (fun x o ho y => by
    have ho := List.mem_singleton.1 ho
    subst ho; exact hl x) hq
attribute [irreducible] outsP
end Go.Proofs.Ytjndgegfonhhfaa.SE
end
section
/- What is asked, in plain words. -/
namespace Go.Proofs.Ytjndgegfonhhfaa.SE
open Go
/-- A value into which the kernel does not look. -/
noncomputable def hid {α : Type} (a : α) : {b : α // b = a} := Classical.choice ⟨⟨a, rfl⟩⟩
noncomputable def hide {α : Type} (a : α) : α := (hid a).1
theorem hide_eq {α : Type} (a : α) : hide a = a := (hid a).2
/-- A proposition into which the kernel does not look. -/
noncomputable def Hd (p : Prop) : Prop := hide p
theorem hd_iff {p : Prop} : Hd p ↔ p := by unfold Hd; rw [hide_eq]
theorem unit_ex {p : Unit → Prop} : (∃ y, p y) ↔ p () := ⟨fun ⟨_, h⟩ => h, fun h => ⟨(), h⟩⟩
theorem unit_all {p : Unit → Prop} : (∀ y, p y) ↔ p () := ⟨fun h => h (), fun h _ => h⟩
end Go.Proofs.Ytjndgegfonhhfaa.SE
end
section
/- Functions without a Go text: comparing strings, and what is done at one stroke. -/
namespace Go.Proofs.Ytjndgegfonhhfaa.SE
open Go

/-- The numbers of the objects at the ends are right. -/
def lenOk {X : Type} (x : X) : List (Out X) → Prop
  | [] => True
  | o :: r => (∀ y, (o.os x y).length = o.m) ∧ lenOk x r
theorem lenOk_mem {X : Type} {x : X} : ∀ {l : List (Out X)}, lenOk x l → ∀ o ∈ l, ∀ y, (o.os x y).length = o.m
  | o :: r, h, p, hp, y => by
    rcases List.mem_cons.1 hp with rfl | hp
    · exact h.1 y
    · exact lenOk_mem h.2 p hp y
theorem ctr_endL {P : Program} {tbl : WTbl} {tt : TT} (hT : tt.ok P) (hm : P.follows .mixedOrders = true) (ht : TblOk P tbl) {C : Ctr} (an : C.X → FuncId → Anns) (fuel d : Nat) {f : FuncId}
    (hk : ∀ x, (C.os x).length = C.k) (hl : ∀ x, lenOk x C.outs)
    (hq : ∀ x, C.pre x → wpF P tbl tt (an x) fuel d f (C.args x) (hO C.k (C.os x)) (fun v h' => endsP C.k x v h' C.outs)) : CtrOk P f C :=
  ctr_end hT hm ht an fuel d hk (fun x => lenOk_mem (hl x)) hq

/-- Such a function, and what it does. -/
def IsExt (P : Program) (f : FuncId) (e : Array Value → Sem Value) : Prop := ∃ fn, P.funcs[f]? = some fn ∧ (fn.name == "runtime.NumGoroutine") = false ∧ fn.body.isNone = true ∧ Extern.findNext fn = none ∧ Extern.find fn = some e
/-! ### Strings -/
noncomputable def cmpM (a b : ByteArray) : Int := hide (Lib.compareBytes a.data.toList b.data.toList)
def cmpX : WTr := fun args h K => match args with
  | [.lit (.string a), .lit (.string b)] => K (.lit (.int .i64 (cmpM a b))) h
  | _ => False
/-! ### At one stroke -/
theorem Rel.ownCell {h h' : Heap} {ρ : Ren} {T : Nat → Prop} {w : World} (hR : Rel h ρ T w) {i o : Nat} {v : AV} (hs : setCell h i o v = some h') {a : Loc} (ha : ρ i = some a) : w.frozen? ⟨a.blk, a.base + o, none⟩ = false := by
  obtain ⟨S, r1, _⟩ := hR
  unfold setCell at hs
  split at hs
  · rename_i e c hx
    obtain ⟨a', ha', ho⟩ := r1 i _ hx
    obtain rfl : a' = a := Option.some.inj (ha'.symm.trans ha)
    obtain ⟨h0, hS, arr, hb, _⟩ := ho
    simp [World.frozen?, hb]
  · rename_i e c hx
    obtain ⟨a', ha', ho⟩ := r1 i _ hx
    obtain rfl : a' = a := Option.some.inj (ha'.symm.trans ha)
    obtain ⟨h0, hS, arr, hb, _⟩ := ho
    simp [World.frozen?, hb]
  · cases hs
def atI (h : Heap) (a : AV) (k : IntKind) (Q : Nat → Nat → Int → Prop) : Prop := match a with
  | .ptr i o => match cellAt h i o with
    | some (.lit (.int k' x)) => bif decide (k' = k) then Q i o x else False
    | _ => False
  | _ => False
theorem atI_ok {h : Heap} {ρ : Ren} {T : Nat → Prop} {w : World} (hR : Rel h ρ T w) {a : AV} {u : Value} {k : IntKind} {Q : Nat → Nat → Int → Prop} (hq : atI h a k Q) (hu : VRel ρ a u) :
    ∃ i o x b, u = .pointer (some ⟨b.blk, b.base + o, none⟩) ∧ ρ i = some b ∧ w.cell? ⟨b.blk, b.base + o, none⟩ = some (.int k x) ∧ Q i o x := by
  unfold atI at hq
  split at hq
  · rename_i i o
    split at hq
    · rename_i k' x hc
      by_cases hk : k' = k
      · subst hk
        simp only [decide_true, cond_true] at hq
        obtain ⟨b, hb, y, hy, hr⟩ := hR.cell hc
        simp only [VRel] at hr hu
        obtain ⟨b', hb', rfl⟩ := hu
        obtain rfl : b' = b := Option.some.inj (hb'.symm.trans hb)
        subst hr
        exact ⟨i, o, x, b', rfl, hb, hy, hq⟩
      · simp [hk] at hq
    · exact hq.elim
  · exact hq.elim
def putI (h : Heap) (i o : Nat) (k : IntKind) (y : Int) (Q : Heap → Prop) : Prop := match setCell h i o (.lit (.int k y)) with
  | some h' => Q h'
  | none => False
theorem putI_ok {P : Program} {h : Heap} {ρ : Ren} {T : Nat → Prop} {w : World} (hR : Rel h ρ T w) {i o : Nat} {k : IntKind} {y : Int} {Q : Heap → Prop} {b : Loc} (hq : putI h i o k y Q) (hb : ρ i = some b) :
    ∃ h', w.frozen? ⟨b.blk, b.base + o, none⟩ = false ∧ Rel h' ρ T (w.setCell ⟨b.blk, b.base + o, none⟩ (.int k y)) ∧ h'.next = h.next ∧ Keeps T w (w.setCell ⟨b.blk, b.base + o, none⟩ (.int k y)) ∧ Q h' := by
  unfold putI at hq
  split at hq
  · rename_i h' hs
    obtain ⟨_, h2, h3, h4⟩ := setCell_ok (P := P) hR hs hb rfl (u := .int k y) (by simp only [VRel])
    exact ⟨h', hR.ownCell hs hb, h2, h3, h4, hq⟩
  · exact hq.elim
def loadX (k : IntKind) : WTr := fun args h K => match args with
  | [a] => atI h a k fun _ _ x => K (.lit (.int k x)) h
  | _ => False
def storeX (k : IntKind) : WTr := fun args h K => match args with
  | [a, .lit (.int k' y)] => bif decide (k' = k) then atI h a k fun i o _ => putI h i o k y fun h' => K (.tup []) h' else False
  | _ => False
def addX (k : IntKind) : WTr := fun args h K => match args with
  | [a, .lit (.int k' y)] => bif decide (k' = k) then atI h a k fun i o x => arith k (x + y) fun
    | .lit (.int k2 s) => bif decide (k2 = k) then putI h i o k s fun h' => K (.lit (.int k s)) h' else False
    | _ => False else False
  | _ => False
def casX (k : IntKind) : WTr := fun args h K => match args with
  | [a, .lit (.int k' x0), .lit (.int k2 y)] => bif decide (k' = k) && decide (k2 = k) then atI h a k fun i o x => cP (decide (x = x0)) (putI h i o k y fun h' => K (.lit (.bool true)) h') (putI h i o k y fun _ => K (.lit (.bool false)) h) else False
  | _ => False
def swapX (k : IntKind) : WTr := fun args h K => match args with
  | [a, .lit (.int k' y)] => bif decide (k' = k) then atI h a k fun i o x => putI h i o k y fun h' => K (.lit (.int k x)) h' else False
  | _ => False
section
variable {P : Program} {f : FuncId} {k : IntKind} (args : List AV) (h : Heap) (K : AV → Heap → Prop)
theorem vs1 {vs : Array Value} {a : Value} (h : vs.toList = [a]) : vs = #[a] := by cases vs; simp at h; rw [h]
theorem vs2 {vs : Array Value} {a b : Value} (h : vs.toList = [a, b]) : vs = #[a, b] := by cases vs; simp at h; rw [h]
theorem vs3 {vs : Array Value} {a b c : Value} (h : vs.toList = [a, b, c]) : vs = #[a, b, c] := by cases vs; simp at h; rw [h]
theorem loadX_ok (hf : IsExt P f (Extern.Atomic.loadT (.int k))) (hq : loadX k args h K) : XSp P f args h K := by
  obtain ⟨fn, h1, h2, h3, h4, h5⟩ := hf
  unfold loadX at hq
  split at hq
  · intro ρ T w vs hR hl
    simp only [LRel] at hl
    obtain ⟨u, _, hvs, hu, rfl⟩ := hl
    obtain ⟨i, o, x, b, rfl, hb, hc, hq⟩ := atI_ok hR hq hu
    rw [vs1 hvs]
    exact ⟨_, _, _, w, ρ, run_call_load h1 h2 h3 h4 k h5 hc, fun _ _ => rfl, Ren.le_refl _, Nat.le_refl _, hR, by simp only [VRel], Keeps.refl _ _, hq⟩
  · exact hq.elim
theorem storeX_ok (hf : IsExt P f Extern.Atomic.storeT) (hq : storeX k args h K) : XSp P f args h K := by
  obtain ⟨fn, h1, h2, h3, h4, h5⟩ := hf
  unfold storeX at hq
  split at hq
  · rename_i a k' y
    by_cases hk : k' = k
    · subst hk
      simp only [decide_true, cond_true] at hq
      intro ρ T w vs hR hl
      simp only [LRel, VRel] at hl
      obtain ⟨u, _, hvs, hu, _, _, rfl, rfl, rfl⟩ := hl
      obtain ⟨i, o, x, b, rfl, hb, hc, hq⟩ := atI_ok hR hq hu
      obtain ⟨h', g1, g2, g3, g4, hq⟩ := putI_ok (P := P) hR hq hb
      rw [vs2 hvs]
      exact ⟨_, _, _, _, ρ, run_call_store h1 h2 h3 h4 h5 hc g1, fun _ _ => rfl, Ren.le_refl _, by omega, g2, by simp only [VRel]; exact ⟨_, rfl, .nil⟩, g4, hq⟩
    · simp [hk] at hq
  · exact hq.elim
theorem run_add (x y : Int) (w : World) : (Op.intArith .add k x y).run P w = .ok (.int k (k.wrap (x + y))) w := by simp [Op.intArith]
theorem addX_ok (hf : IsExt P f (Extern.Atomic.update (Op.intArith .add) k true)) (hq : addX k args h K) : XSp P f args h K := by
  obtain ⟨fn, h1, h2, h3, h4, h5⟩ := hf
  unfold addX at hq
  split at hq
  · rename_i a k' y
    by_cases hk : k' = k
    · subst hk
      simp only [decide_true, cond_true] at hq
      intro ρ T w vs hR hl
      simp only [LRel, VRel] at hl
      obtain ⟨u, _, hvs, hu, _, _, rfl, rfl, rfl⟩ := hl
      obtain ⟨i, o, x, b, rfl, hb, hc, hq⟩ := atI_ok hR hq hu
      have hq := arith_ok hq
      simp only [decide_true, cond_true] at hq
      obtain ⟨h', g1, g2, g3, g4, hq⟩ := putI_ok (P := P) hR hq hb
      rw [vs2 hvs]
      exact ⟨_, _, _, _, ρ, run_call_add h1 h2 h3 h4 k' h5 hc g1 (run_add _ _ _), fun _ _ => rfl, Ren.le_refl _, by omega, g2, by simp only [VRel], g4, hq⟩
    · simp [hk] at hq
  · exact hq.elim
theorem casX_ok (hf : IsExt P f (Extern.Atomic.casT (.int k))) (hq : casX k args h K) : XSp P f args h K := by
  obtain ⟨fn, h1, h2, h3, h4, h5⟩ := hf
  unfold casX at hq
  split at hq
  · rename_i a k' x0 k2 y
    cases hkk : (decide (k' = k) && decide (k2 = k)) with
    | false => rw [hkk] at hq; exact hq.elim
    | true =>
      simp only [Bool.and_eq_true, decide_eq_true_eq] at hkk
      obtain ⟨rfl, rfl⟩ := hkk
      simp only [decide_true, Bool.and_self, cond_true] at hq
      intro ρ T w vs hR hl
      simp only [LRel, VRel] at hl
      obtain ⟨u, _, hvs, hu, _, _, rfl, rfl, _, _, rfl, rfl, rfl⟩ := hl
      obtain ⟨i, o, x, b, rfl, hb, hc, hq⟩ := atI_ok hR hq hu
      rw [vs3 hvs]
      rcases cP_elim hq with ⟨he, hq2⟩ | ⟨he, hq2⟩
      · have he : x = x0 := of_decide_eq_true he
        obtain ⟨h', g1, g2, g3, g4, hq3⟩ := putI_ok (P := P) hR hq2 hb
        refine ⟨.lit (.bool true), h', .bool true, _, ρ, ?_, fun _ _ => rfl, Ren.le_refl _, by omega, g2, by simp only [VRel], g4, hq3⟩
        rw [← he]
        exact run_call_cas_hit h1 h2 h3 h4 _ h5 hc g1
      · have he := of_decide_eq_false he
        obtain ⟨h', g1, g2, g3, g4, hq3⟩ := putI_ok (P := P) hR hq2 hb
        exact ⟨_, _, _, w, ρ, run_call_cas_miss h1 h2 h3 h4 _ h5 hc g1 he, fun _ _ => rfl, Ren.le_refl _, Nat.le_refl _, hR, by simp only [VRel], Keeps.refl _ _, hq3⟩
  · exact hq.elim
end
end Go.Proofs.Ytjndgegfonhhfaa.SE
end
section
/- A slice within a value that came in, as a row. -/
namespace Go.Proofs.Ytjndgegfonhhfaa.SE
open Go
open Go.ChangeShapes Go.WideShapes Go.ChangeAt Go.RowKit
end Go.Proofs.Ytjndgegfonhhfaa.SE
end
section
/- A slice of a row with room, opened: its room is a number; and shut again. -/
namespace Go.Proofs.Ytjndgegfonhhfaa.SE
open Go
/-! ### Two slices in two blocks do not overlap -/
def overX : WTr := fun args h K => match args with
  | [.sl i _ _ _, .slE j _ _ _ _] => match h.get i, h.get j with
    | some (.cells _ _), some (.room _ (.row m N _ _)) => bif Nat.beq i j then False else (0 < N * m ∧ K (.lit (.bool false)) h)
    | _, _ => False
  | _ => False
/-! ### Objects shut ahead of a call -/
/-! ### A row that has moved, as a new object -/
/-- Of this nothing is told. -/
noncomputable def topS : Own := hide topOwn
end Go.Proofs.Ytjndgegfonhhfaa.SE
end
