/- Memory behind a name: taken apart, and laid together again. -/
import Derived.Test.YtpbdlibgbkhlhaaGreatE13
namespace Go.Proofs.YtpbdlibgbkhlhaaGreat.SE
open Go

/-- Memory of which a heap of a certain form tells; number 0 is where it is held. -/
def mkOwn (Φ : Heap → Prop) : Own where
  holds w a S := ∃ h ρ, Φ h ∧ 0 < h.next ∧ (∀ i o, h.get i = some o → isRo o = false) ∧ ρ 0 = some a ∧ RelS h ρ S w
  stays w w' a S := by
    rintro ⟨h, ρ, hΦ, h0, hro, ha, T, h1, h2, h3, h4⟩ hw
    have key : ∀ i o, h.get i = some o → ∀ b, T i b → w'.heap[b]? = w.heap[b]? := fun i o hi b hb => hw b (h3 i o b hi hb).1
    refine ⟨h, ρ, hΦ, h0, hro, ha, T, fun i o hi => ?_, h2, fun i o b hi hb => ⟨(h3 i o b hi hb).1, ?_⟩, h4⟩
    · obtain ⟨x, hx, hh⟩ := h1 i o hi
      exact ⟨x, hx, hh.owned (hro i o hi) (key i o hi)⟩
    · have hlt := (h3 i o b hi hb).2
      have := key i o hi b hb
      rw [Array.getElem?_eq_getElem hlt] at this
      exact (Array.getElem?_eq_some_iff.1 this).1

def openH (i : Nat) : Heap → Heap → Heap
  | ⟨n, m⟩, ⟨k, m0⟩ => ⟨n + (k - 1), mergeL (lay (fun _ => i) 1 n) (fun _ => false) ⟨k, m0⟩ (List.range k) m⟩
theorem openH_eq (i : Nat) (h h0 : Heap) : openH i h h0 = ⟨h.next + (h0.next - 1), mergeL (lay (fun _ => i) 1 h.next) (fun _ => false) h0 (List.range h0.next) h.m⟩ := by cases h; cases h0; rfl

theorem Rel.open {h : Heap} {ρ : Ren} {T : Nat → Prop} {w : World} (hR : Rel h ρ T w) {i : Nat} {Φ : Heap → Prop} (hi : h.get i = some (.abs (mkOwn Φ))) :
    ∃ h0 ρ', Φ h0 ∧ ρ.le ρ' ∧ (∀ j, j < h.next → ρ' j = ρ j) ∧ h.next ≤ (openH i h h0).next ∧ Rel (openH i h h0) ρ' T w := by
  obtain ⟨S, h1, h2, h3, h4, h5⟩ := hR
  obtain ⟨a, ha, h0, ρ0, hΦ, hn0, hro, ha0, hRS⟩ := h1 i _ hi
  have hin : i < h.next := by
    rcases Nat.lt_or_ge i h.next with h' | h'
    · exact h'
    · rw [h4 i h'] at ha; cases ha
  have hlow : ∀ j o, h.get j = some o → j < h.next := fun j o hj => by
    obtain ⟨x, hx, _⟩ := h1 j o hj
    rcases Nat.lt_or_ge j h.next with h' | h'
    · exact h'
    · rw [h4 j h'] at hx; cases hx
  obtain ⟨S0, r1, r2, r3, r4⟩ := hRS
  obtain ⟨ρ', b1, b2, b3, b4, b5⟩ := Rel.back (h' := openH i h h0) (own := fun _ => True) (τ := fun _ => i) (k0 := 1) (ρ0' := ρ0) (h0' := h0) (T0 := S i) (w := w) (w' := w) h1 h2 h3 h4 h5
    (fun b hb => ⟨0, _, by omega, trivial, hi, hb⟩) (fun j _ => hin) (Keeps.refl _ _) (fun j hj => by
      have : j = 0 := by omega
      subst this; rw [ha0]; exact ha.symm) hn0
    ⟨S0, fun j o hj => by
      obtain ⟨x, hx, hh⟩ := r1 j o hj
      exact ⟨x, hx, hh.turnT (hro j o hj)⟩, r2, fun j o b hj hb => ⟨.inl (r3 j o b hj hb).1, (r3 j o b hj hb).2⟩, r4⟩
    (fun j o hj hr => by rw [hro j o hj] at hr; cases hr) (by rw [openH_eq])
    (fun j o hj => by
      rw [openH_eq] at hj
      have hj' : (mergeL (lay (fun _ => i) 1 h.next) (fun _ => false) h0 (List.range h0.next) h.m).get j = some o := hj
      rcases mergeL_get _ _ h0 _ _ j o hj' with ⟨hm, hne⟩ | ⟨x, o0, hx, _, ho0, hr, rfl, rfl⟩
      · refine .inl ⟨hlow j o hm, hm, fun x hx _ => ?_⟩
        have hx0 : x = 0 := by omega
        subst hx0
        have := hne 0 (List.mem_range.2 hn0) rfl
        simpa [lay] using this
      · exact .inr ⟨x, o0, ho0, .inr trivial, rfl, rfl⟩) (fun x y hx hy _ => by omega)
  exact ⟨h0, ρ', hΦ, b1, b2, by rw [openH_eq]; simp, b4⟩

theorem St.open {k n : Nat} {ρ : Ren} {T : Nat → Prop} {fr : Fr} {h : Heap} {a : Act} {w : World} (hs : St k n ρ T fr h a w) {i : Nat} {Φ : Heap → Prop} (hi : h.get i = some (.abs (mkOwn Φ))) :
    ∃ h0 ρ', Φ h0 ∧ (∀ j, j < k → ρ' j = ρ j) ∧ St k n ρ' T fr (openH i h h0) a w := by
  obtain ⟨h0, ρ', b1, b2, b3, b4, b5⟩ := hs.rel.open hi
  exact ⟨h0, ρ', b1, fun j hj => b3 j (Nat.lt_of_lt_of_le hj hs.le), Nat.le_trans hs.le b4, b5, hs.fr.mono b2⟩

theorem rplan_open {P : Program} {k n : Nat} {ops : Array Oper} {Q : Fr → Heap → Prop} {fr : Fr} {h : Heap} {pl : List Stp} {i : Nat} {Φ : Heap → Prop} (hi : h.get i = some (.abs (mkOwn Φ)))
    (hn : ∀ h0, Φ h0 → RPlan P k n ops pl Q fr (openH i h h0)) : RPlan P k n ops pl Q fr h := by
  intro ρ T w a hs
  obtain ⟨h0, ρ', b1, b2, b3⟩ := hs.open hi
  exact wpPlan_mono (rpost_mono b2 (Keeps.refl _ _)) pl a w (hn h0 b1 ρ' T w a b3)
theorem awp_open {P : Program} {k n : Nat} {c : Code} {Q : Exit → Fr → Heap → Prop} {fr : Fr} {h : Heap} {i : Nat} {Φ : Heap → Prop} (hi : h.get i = some (.abs (mkOwn Φ)))
    (hn : ∀ h0, Φ h0 → AWp P k n c Q fr (openH i h h0)) : AWp P k n c Q fr h := by
  intro ρ T w a hs
  obtain ⟨h0, ρ', b1, b2, b3⟩ := hs.open hi
  exact wp_mono (hn h0 b1 ρ' T w a b3) (apost_trans b2 (Keeps.refl _ _))

theorem sp_open {P : Program} {f : FuncId} {args : List AV} {h : Heap} {K : AV → Heap → Prop} {i : Nat} {Φ : Heap → Prop} (hi : h.get i = some (.abs (mkOwn Φ))) (hc : Callable P f)
    (hn : ∀ h0, Φ h0 → Sp P f args (openH i h h0) K) : Sp P f args h K := by
  refine ⟨hc, fun ρ T w vs hR hl => ?_⟩
  obtain ⟨h0, ρ', b1, b2, b3, b4, b5⟩ := hR.open hi
  refine ((hn h0 b1).2 ρ' T w vs b5 (LRel.mono b2 _ _ hl)).mono ?_
  rintro e w' ⟨ρ2, v, u, h', c1, c2, c3, c4, c5, c6, c7⟩
  exact ⟨ρ2, v, u, h', fun j hj => (c1 j (Nat.lt_of_lt_of_le hj b4)).trans (b3 j hj), Nat.le_trans b4 c2, c3, c4, c5, c6, c7⟩

/-! ### Ends that say less -/
/-- Value and heap say all that others say; the first k numbers stay. -/
def Leq (k : Nat) (v : AV) (h : Heap) (v' : AV) (h' : Heap) : Prop :=
  k ≤ h'.next ∧ ∀ ρ T w u, Rel h ρ T w → VRel ρ v u → ∃ ρ', (∀ i, i < k → ρ' i = ρ i) ∧ Rel h' ρ' T w ∧ VRel ρ' v' u
theorem Leq.refl {k : Nat} {v : AV} {h : Heap} (hk : k ≤ h.next) : Leq k v h v h := ⟨hk, fun ρ _ _ _ hR hv => ⟨ρ, fun _ _ => rfl, hR, hv⟩⟩
theorem Leq.trans {k : Nat} {v v' v'' : AV} {h h' h'' : Heap} (a : Leq k v h v' h') (b : Leq k v' h' v'' h'') : Leq k v h v'' h'' :=
  ⟨b.1, fun ρ T w u hR hv => by
    obtain ⟨ρ', h1, h2, h3⟩ := a.2 ρ T w u hR hv
    obtain ⟨ρ'', g1, g2, g3⟩ := b.2 ρ' T w u h2 h3
    exact ⟨ρ'', fun i hi => (g1 i hi).trans (h1 i hi), g2, g3⟩⟩
theorem sp_leq {P : Program} {f : FuncId} {args : List AV} {h : Heap} {K : AV → Heap → Prop} (hs : Sp P f args h (fun v h' => ∃ v' h'', Leq h.next v h' v' h'' ∧ K v' h'')) : Sp P f args h K := by
  refine ⟨hs.1, fun ρ T w vs hR hl => (hs.2 ρ T w vs hR hl).mono ?_⟩
  rintro e w' ⟨ρ', v, u, h', c1, c2, c3, c4, c5, c6, v', h'', hq, hK⟩
  obtain ⟨ρ2, g1, g2, g3⟩ := hq.2 ρ' T w' u c3 c4
  exact ⟨ρ2, v', u, h'', fun i hi => (g1 i hi).trans (c1 i hi), hq.1, g2, g3, c5, c6, hK⟩

/-- What is behind a name, opened ahead of a call; behind it only the old numbers stay. -/
theorem sp_openq {P : Program} {f : FuncId} {args : List AV} {h : Heap} {K : AV → Heap → Prop} {i : Nat} {Φ : Heap → Prop} (hi : h.get i = some (.abs (mkOwn Φ))) (hc : Callable P f)
    (hn : ∀ h0, Φ h0 → Sp P f args (openH i h h0) (fun v h' => ∃ v' h'', Leq h.next v h' v' h'' ∧ K v' h'')) : Sp P f args h K := by
  refine ⟨hc, fun ρ T w vs hR hl => ?_⟩
  obtain ⟨h0, ρ', b1, b2, b3, b4, b5⟩ := hR.open hi
  refine ((hn h0 b1).2 ρ' T w vs b5 (LRel.mono b2 _ _ hl)).mono ?_
  rintro e w' ⟨ρ2, v, u, h', c1, c2, c3, c4, c5, c6, v', h'', hq, hK⟩
  obtain ⟨ρ3, g1, g2, g3⟩ := hq.2 ρ2 T w' u c3 c4
  exact ⟨ρ3, v', u, h'', fun j hj => (g1 j hj).trans ((c1 j (Nat.lt_of_lt_of_le hj b4)).trans (b3 j hj)), hq.1, g2, g3, c5, c6, hK⟩

theorem Rel.sub {h h' : Heap} {ρ : Ren} {T : Nat → Prop} {w : World} (hR : Rel h ρ T w) (τ : Nat → Nat)
    (hinj : ∀ i j, i < h'.next → j < h'.next → τ i = τ j → i = j) (hobj : ∀ i o0, h'.get i = some o0 → i < h'.next ∧ ∃ o, h.get (τ i) = some o ∧ Soft τ h'.next o0 o) :
    Rel h' (fun i => if i < h'.next then ρ (τ i) else none) T w := by
  obtain ⟨S, h1, h2, h3, h4, h5⟩ := hR
  have hρ : ∀ i, i < h'.next → (fun i => if i < h'.next then ρ (τ i) else none) i = ρ (τ i) := fun i hi => by simp [hi]
  refine ⟨fun i => S (τ i), fun i o0 hi => ?_, fun i j o o' b hi hj hij hSi hSj => ?_, fun i o0 b hi hS => ?_, fun i hi => by simp; omega, h5⟩
  · obtain ⟨hlt, o, ho, hsoft⟩ := hobj i o0 hi
    obtain ⟨x, hx, hh⟩ := h1 _ o ho
    exact ⟨x, by rw [hρ i hlt]; exact hx, hsoft ρ _ w T x _ hρ hh⟩
  · obtain ⟨hlt, x, hx, _⟩ := hobj i o hi
    obtain ⟨hlt', y, hy, _⟩ := hobj j o' hj
    exact h2 _ _ x y b hx hy (fun he => hij (hinj i j hlt hlt' he)) hSi hSj
  · obtain ⟨hlt, x, hx, _⟩ := hobj i o0 hi
    exact h3 _ x b hx hS

/-- Another numbering, fewer objects. -/
theorem leq_sub {k : Nat} {v v' : AV} {h : Heap} (m : Nat) (ids : List Nat) (os : List AObj) (hm : os.length = m) (hids : idsOk k ids m = true) (hobj : ObjSub (atL ids) m h 0 os)
    (hv : vmap (atL ids) v' = v) (hb : vbelow m v' = true) : Leq k v h v' (hO m os) := by
  subst hm
  obtain ⟨h1, h2, h3⟩ := idsOk_spec hids
  refine ⟨h1, fun ρ T w u hR hvr => ⟨_, ?_, hR.sub (h' := hOf os) (atL ids) h3 fun i o0 hi => ?_, ?_⟩⟩
  · intro i hi
    have : i < (hOf os).next := Nat.lt_of_lt_of_le hi h1
    simp only [if_pos this]
    rw [h2 i hi]
  · rw [hOf_get] at hi
    obtain ⟨o, ho, hsf⟩ := hobj.get i o0 hi
    rw [Nat.zero_add] at ho
    exact ⟨(List.getElem?_eq_some_iff.1 hi).1, o, ho, hsf⟩
  · refine VRel.vback (n := (hOf os).next) (fun i hi => ?_) v' u hb (by rw [hv]; exact hvr)
    simp only [if_pos hi]

/-- A part of the heap, laid together behind a name. -/
theorem Rel.close {h hc h0 : Heap} {ρ : Ren} {T : Nat → Prop} {w : World} {Φ : Heap → Prop} {τ : Nat → Nat} (hR : Rel h ρ T w) (hΦ : Φ h0) (h00 : 0 < h0.next)
    (hfit : ∀ i o0, h0.get i = some o0 → i < h0.next ∧ obelow h0.next o0 = true ∧ isRo o0 = false ∧ h.get (τ i) = some (omap τ o0)) (hinj : ∀ i j, i < h0.next → j < h0.next → τ i = τ j → i = j)
    (hex : ∃ o, h.get (τ 0) = some o) (hn : hc.next = h.next)
    (hg : ∀ j o, hc.get j = some o → (j = τ 0 ∧ o = .abs (mkOwn Φ)) ∨ (h.get j = some o ∧ ∀ i, i < h0.next → τ i ≠ j)) : Rel hc ρ T w := by
  obtain ⟨S, h1, h2, h3, h4, h5⟩ := hR
  obtain ⟨o00, ho00⟩ := hex
  obtain ⟨a, ha, _⟩ := h1 _ _ ho00
  have hpart := Rel.part (h0 := h0) (τ := τ) h1 h2 h3 hinj (fun i o0 hi => ⟨(hfit i o0 hi).1, (hfit i o0 hi).2.1, _, (hfit i o0 hi).2.2.2, .inl rfl⟩)
  let T0 : Nat → Prop := fun b => ∃ i o0, h0.get i = some o0 ∧ isRo o0 = false ∧ S (τ i) b
  have hT0 : ∀ b, T0 b → ∃ i o, i < h0.next ∧ h.get (τ i) = some o ∧ S (τ i) b := by
    rintro b ⟨i, o0, hi, _, hS⟩
    exact ⟨i, _, (hfit i o0 hi).1, (hfit i o0 hi).2.2.2, hS⟩
  refine ⟨fun j b => (j = τ 0 ∧ T0 b) ∨ ((∀ i, i < h0.next → τ i ≠ j) ∧ S j b), fun j o hj => ?_, fun i j o o' b hi hj hij hSi hSj => ?_, fun j o b hj hS => ?_, fun j hj => h4 j (by omega), h5⟩
  · rcases hg j o hj with ⟨rfl, rfl⟩ | ⟨hjo, hne⟩
    · refine ⟨a, ha, ?_⟩
      have he : (fun b => (τ 0 = τ 0 ∧ T0 b) ∨ ((∀ i, i < h0.next → τ i ≠ τ 0) ∧ S (τ 0) b)) = T0 := by
        funext b; apply propext; constructor
        · rintro (⟨_, h⟩ | ⟨h, _⟩)
          · exact h
          · exact (h 0 h00 rfl).elim
        · intro h; exact .inl ⟨rfl, h⟩
      show (mkOwn Φ).holds w a (fun b => (τ 0 = τ 0 ∧ T0 b) ∨ ((∀ i, i < h0.next → τ i ≠ τ 0) ∧ S (τ 0) b))
      rw [he]
      exact ⟨h0, _, hΦ, h00, fun i o hi => (hfit i o hi).2.2.1, by simp [h00, ha], hpart⟩
    · obtain ⟨x, hx, hh⟩ := h1 j o hjo
      refine ⟨x, hx, ?_⟩
      have he : (fun b => (j = τ 0 ∧ T0 b) ∨ ((∀ i, i < h0.next → τ i ≠ j) ∧ S j b)) = S j := by
        funext b; apply propext; constructor
        · rintro (⟨h, _⟩ | ⟨_, h⟩)
          · exact (hne 0 h00 h.symm).elim
          · exact h
        · intro h; exact .inr ⟨hne, h⟩
      show OHolds ρ w T x (fun b => (j = τ 0 ∧ T0 b) ∨ ((∀ i, i < h0.next → τ i ≠ j) ∧ S j b)) o
      rw [he]; exact hh
  · have one : ∀ i j o', (∀ x, hc.get i = some x → True) → i = τ 0 → hc.get j = some o' → i ≠ j → T0 b → ((j = τ 0 ∧ T0 b) ∨ ((∀ i, i < h0.next → τ i ≠ j) ∧ S j b)) → False := by
      intro i j o' _ hi0 hj hij hT hS
      rcases hS with ⟨h, _⟩ | ⟨hne, hS⟩
      · exact hij (hi0.trans h.symm)
      · rcases hg j o' hj with ⟨h, _⟩ | ⟨hjo, _⟩
        · exact hij (hi0.trans h.symm)
        · obtain ⟨q, oq, hq, hoq, hSq⟩ := hT0 b hT
          exact h2 _ _ _ _ b hoq hjo (hne q hq) hSq hS
    rcases hSi with ⟨hi0, hT⟩ | ⟨hne, hS⟩
    · exact one i j o' (fun _ _ => trivial) hi0 hj hij hT hSj
    · rcases hSj with ⟨hj0, hT⟩ | ⟨hne', hS'⟩
      · exact one j i o (fun _ _ => trivial) hj0 hi (Ne.symm hij) hT (.inr ⟨hne, hS⟩)
      · rcases hg i o hi with ⟨h, _⟩ | ⟨hio, _⟩
        · exact (hne 0 h00 h.symm).elim
        · rcases hg j o' hj with ⟨h, _⟩ | ⟨hjo, _⟩
          · exact (hne' 0 h00 h.symm).elim
          · exact h2 i j o o' b hio hjo hij hS hS'
  · rcases hS with ⟨_, hT⟩ | ⟨hne, hS⟩
    · obtain ⟨i, o', _, ho', hSi⟩ := hT0 b hT
      exact h3 _ o' b ho' hSi
    · rcases hg j o hj with ⟨h, _⟩ | ⟨hjo, _⟩
      · exact (hne 0 h00 h.symm).elim
      · exact h3 j o b hjo hS

/-- The heap in which the objects ids, by their order, have been laid together at the first of them. -/
def dropL (l : List Nat) (h : Heap) : Heap := match l with
  | [] => h
  | i :: l => dropL l (h.drop i)
def closeH (Φ : Heap → Prop) (ids : List Nat) (h : Heap) : Heap := (dropL ids h).set (atL ids 0) (.abs (mkOwn Φ))
theorem dropL_get : ∀ (l : List Nat) (h : Heap) (j : Nat) (o : AObj), (dropL l h).get j = some o → h.get j = some o ∧ j ∉ l
  | [], h, j, o, hg => ⟨hg, by simp⟩
  | i :: l, h, j, o, hg => by
    obtain ⟨h1, h2⟩ := dropL_get l (h.drop i) j o hg
    rw [Heap.get_drop] at h1
    split at h1
    · cases h1
    · rename_i hji; exact ⟨h1, by simp [hji, h2]⟩
theorem dropL_next : ∀ (l : List Nat) (h : Heap), (dropL l h).next = h.next
  | [], _ => rfl
  | i :: l, h => by simp [dropL, dropL_next l]
def OwnFit (τ : Nat → Nat) (n : Nat) (h : Heap) : Nat → List AObj → Prop
  | _, [] => True
  | i, o :: os => (obelow n o = true ∧ isRo o = false ∧ h.get (τ i) = some (omap τ o)) ∧ OwnFit τ n h (i + 1) os
theorem OwnFit.get {τ : Nat → Nat} {n : Nat} {h : Heap} : ∀ {os : List AObj} {i : Nat}, OwnFit τ n h i os → ∀ j o, os[j]? = some o → obelow n o = true ∧ isRo o = false ∧ h.get (τ (i + j)) = some (omap τ o)
  | [], _, _, j, o, hj => by simp at hj
  | x :: os, i, hs, 0, o, hj => by simp at hj; subst hj; exact hs.1
  | x :: os, i, hs, j + 1, o, hj => by
    have := hs.2.get j o (by simpa using hj)
    rw [show i + (j + 1) = i + 1 + j by omega]
    exact this
theorem leq_close {k : Nat} {v : AV} {h : Heap} {Φ : Heap → Prop} (m : Nat) (ids : List Nat) (os : List AObj) (hm : os.length = m) (h0 : Nat.blt 0 m = true) (hids : idsOk 0 ids m = true) (hk : k ≤ h.next) (hΦ : Φ (hO m os)) (hfit : OwnFit (atL ids) m h 0 os) :
    Leq k v h v (closeH Φ ids h) := by
  subst hm
  obtain ⟨_, _, h3⟩ := idsOk_spec hids
  have hlen : ids.length = os.length := by simp only [idsOk, Bool.and_eq_true] at hids; exact Nat.eq_of_beq_eq_true hids.1.1.1
  have hpos : 0 < os.length := nblt_iff.1 h0
  have hn : (closeH Φ ids h).next = h.next := by simp [closeH, dropL_next]
  refine ⟨by rw [hn]; exact hk, fun ρ T w u hR hv => ⟨ρ, fun _ _ => rfl, ?_, hv⟩⟩
  refine hR.close (h0 := hOf os) (τ := atL ids) hΦ hpos (fun i o0 hi => ?_) h3 ?_ hn (fun j o hj => ?_)
  · rw [hOf_get] at hi
    have := hfit.get i o0 hi
    rw [Nat.zero_add] at this
    exact ⟨(List.getElem?_eq_some_iff.1 hi).1, this⟩
  · obtain ⟨o, ho⟩ : ∃ o, os[0]? = some o := ⟨os[0], by simp [hpos]⟩
    have := (hfit.get 0 o ho).2.2
    exact ⟨_, this⟩
  · unfold closeH at hj
    rw [Heap.get_set] at hj
    split at hj
    · rename_i hj0; cases hj; exact .inl ⟨hj0, rfl⟩
    · obtain ⟨g1, g2⟩ := dropL_get ids h j o hj
      refine .inr ⟨g1, fun i hi he => g2 ?_⟩
      have hi' : i < ids.length := by rw [hlen]; exact hi
      rw [← he]
      simp only [atL, List.getD_eq_getElem?_getD, List.getElem?_eq_getElem hi', Option.getD_some]
      exact List.getElem_mem hi'
end Go.Proofs.YtpbdlibgbkhlhaaGreat.SE
