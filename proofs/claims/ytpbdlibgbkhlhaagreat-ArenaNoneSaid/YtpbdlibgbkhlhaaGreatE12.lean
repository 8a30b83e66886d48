/- A function called over a greater heap; states that say less; a function's contract from its body; memory behind a name. -/
import Derived.Test.YtpbdlibgbkhlhaaGreatE11
namespace Go.Proofs.YtpbdlibgbkhlhaaGreat.SE
open Go

/-! ### Heaps out of lists -/
def putO : List AObj → Nat → HM → HM
  | [], _, t => t
  | v :: r, k, t => putO r (k + 1) (t.set k (some v))
theorem putO_get : ∀ (m : List AObj) (o : Nat) (t : HM) (k : Nat), (putO m o t).get k = if o ≤ k ∧ k < o + m.length then m[k - o]? else t.get k
  | [], o, t, k => by simp [putO]; intro h1 h2; omega
  | v :: r, o, t, k => by
    simp only [putO]
    rw [putO_get r (o + 1) _ k, HM.get_set]
    simp only [List.length_cons]
    by_cases h1 : o = k
    · subst h1; rw [if_neg (by omega), if_pos rfl, if_pos (by omega)]; simp
    · by_cases h2 : o ≤ k ∧ k < o + (r.length + 1)
      · rw [if_pos (by omega), if_pos h2]
        have : k - o = (k - (o + 1)) + 1 := by omega
        rw [this]; simp
      · rw [if_neg (by omega), if_neg (Ne.symm h1), if_neg h2]
/-- n: how many they are. -/
def hO (n : Nat) (os : List AObj) : Heap := ⟨n, putO os 0 []⟩
def hOf (os : List AObj) : Heap := hO os.length os
theorem hOf_get (os : List AObj) (i : Nat) : (hOf os).get i = os[i]? := by
  simp only [hOf, hO, Heap.get, putO_get, Nat.zero_le, true_and, Nat.zero_add, Nat.sub_zero]
  split
  · rfl
  · rename_i h; simp [HM.get_leaf]; omega
theorem hOf_next (os : List AObj) : (hOf os).next = os.length := rfl

/-- A frame out of a list of slots and values. -/
def frL : List (Nat × AV) → Fr
  | [] => .leaf
  | (t, v) :: l => (frL l).set t (some v)
theorem look_frL : ∀ (l : List (Nat × AV)) (t : Nat), look (frL l) t = match l.find? (fun p => p.1 == t) with | some p => p.2 | none => .any
  | [], t => rfl
  | (s, v) :: l, t => by
    have ih := look_frL l t
    simp only [frL, look, PM.get_set, List.find?_cons] at ih ⊢
    by_cases h : t = s
    · subst h; simp
    · have h' : (s == t) = false := by simpa using Ne.symm h
      rw [if_neg h, h']
      exact ih

def atL (l : List Nat) (i : Nat) : Nat := l.getD i 0

/-! ### A call over a greater heap -/
theorem RelS.less {h h' : Heap} {ρ : Ren} {T : Nat → Prop} {w : World} (hR : RelS h ρ T w) (hn : h'.next = h.next) (hg : ∀ i o, h'.get i = some o → h.get i = some o) : RelS h' ρ T w := by
  obtain ⟨S, h1, h2, h3, h4⟩ := hR
  exact ⟨S, fun i o hi => h1 i o (hg i o hi), fun i j o o' b hi hj => h2 i j o o' b (hg i o hi) (hg j o' hj), fun i o b hi => h3 i o b (hg i o hi), fun i hi => h4 i (by omega)⟩

/-- Without what is only read. -/
def noRo (h : Heap) : Heap := ⟨h.next, h.m.filt (fun o => !isRo o)⟩
theorem noRo_get {h : Heap} {i : Nat} {o : AObj} (hg : (noRo h).get i = some o) : h.get i = some o ∧ isRo o = false := by
  unfold noRo Heap.get at hg
  simp only [HM.get_filt] at hg
  split at hg
  · rename_i x hx
    cases hr : isRo x with
    | true => rw [hr] at hg; simp at hg
    | false => rw [hr] at hg; simp at hg; subst hg; exact ⟨hx, hr⟩
  · cases hg
theorem noRo_of {h : Heap} {i : Nat} {o : AObj} (hg : h.get i = some o) (hr : isRo o = false) : (noRo h).get i = some o := by
  unfold noRo Heap.get
  simp only [HM.get_filt]
  have : h.m.get i = some o := hg
  simp [this, hr]
/-- Is the i-th object of a part one that is given away? -/
def gives (h0 : Heap) (i : Nat) : Bool := match h0.get i with
  | some o => !isRo o
  | none => true

/-- The whole, with what its part has become. -/
def mergeL (lay : Nat → Nat) (skip : Nat → Bool) (h0' : Heap) : List Nat → HM → HM
  | [], m => m
  | i :: l, m => mergeL lay skip h0' l (bif skip i then m else (match h0'.get i with
    | some o => bif isRo o then m.set (lay i) none else m.set (lay i) (some (omap lay o))
    | none => m.set (lay i) none))
def mergeH (τ : Nat → Nat) : Heap → Heap → Heap → Heap
  | ⟨k, m0⟩, ⟨n, m⟩, ⟨k', m'⟩ => ⟨n + (k' - k), mergeL (lay τ k n) (fun i => Nat.blt i k && !gives ⟨k, m0⟩ i) ⟨k', m'⟩ (List.range k') m⟩
theorem mergeH_eq (τ : Nat → Nat) (h0 h h0' : Heap) : mergeH τ h0 h h0' =
    ⟨h.next + (h0'.next - h0.next), mergeL (lay τ h0.next h.next) (fun i => Nat.blt i h0.next && !gives h0 i) h0' (List.range h0'.next) h.m⟩ := by
  cases h0; cases h; cases h0'; rfl

theorem mergeL_get (lay : Nat → Nat) (skip : Nat → Bool) (h0' : Heap) : ∀ (l : List Nat) (m : HM) (j : Nat) (o : AObj), (mergeL lay skip h0' l m).get j = some o →
    (m.get j = some o ∧ ∀ i ∈ l, skip i = false → lay i ≠ j) ∨ ∃ i o0, i ∈ l ∧ skip i = false ∧ h0'.get i = some o0 ∧ isRo o0 = false ∧ j = lay i ∧ o = omap lay o0
  | [], m, j, o, h => .inl ⟨h, fun i hi => by cases hi⟩
  | i :: l, m, j, o, h => by
    simp only [mergeL] at h
    rcases mergeL_get lay skip h0' l _ j o h with ⟨hm, hne⟩ | ⟨i', o0, hi', rest⟩
    · cases hs : skip i with
      | true =>
        rw [hs] at hm; simp only [cond_true] at hm
        exact .inl ⟨hm, fun x hx hxs => by
          rcases List.mem_cons.1 hx with hx | hx
          · subst hx; rw [hs] at hxs; cases hxs
          · exact hne x hx hxs⟩
      | false =>
        rw [hs] at hm; simp only [cond_false] at hm
        by_cases hij : lay i = j
        · split at hm
          · rename_i o0 ho0
            cases hr : isRo o0 with
            | true => rw [hr] at hm; simp only [cond_true] at hm; rw [HM.get_set, if_pos hij.symm] at hm; cases hm
            | false =>
              rw [hr] at hm; simp only [cond_false] at hm
              rw [HM.get_set, if_pos hij.symm] at hm
              cases hm
              exact .inr ⟨i, o0, by simp, hs, ho0, hr, hij.symm, rfl⟩
          · rw [HM.get_set, if_pos hij.symm] at hm; cases hm
        · refine .inl ⟨?_, fun x hx hxs => ?_⟩
          · split at hm
            · rename_i o0 ho0
              cases hr : isRo o0 with
              | true => rw [hr] at hm; simp only [cond_true] at hm; rw [HM.get_set, if_neg (Ne.symm hij)] at hm; exact hm
              | false => rw [hr] at hm; simp only [cond_false] at hm; rw [HM.get_set, if_neg (Ne.symm hij)] at hm; exact hm
            · rw [HM.get_set, if_neg (Ne.symm hij)] at hm; exact hm
          · rcases List.mem_cons.1 hx with hx | hx
            · subst hx; exact hij
            · exact hne x hx hxs
    · exact .inr ⟨i', o0, by simp [hi'], rest⟩

theorem Sp.frame {P : Program} {f : FuncId} {args0 args : List AV} {h0 h : Heap} {K0 : AV → Heap → Prop} (τ : Nat → Nat) (hs : Sp P f args0 h0 K0)
    (hfit : ∀ i o0, h0.get i = some o0 → i < h0.next ∧ obelow h0.next o0 = true ∧ ∃ o, h.get (τ i) = some o ∧ fits τ o0 o)
    (hinj : ∀ i j, i < h0.next → j < h0.next → τ i = τ j → i = j) (hτ : ∀ i, i < h0.next → τ i < h.next) (hargs : lmap τ args0 = args) (hbel : lbelow h0.next args0 = true) :
    Sp P f args h (fun v h' => ∃ v0 h0', K0 v0 h0' ∧ v = vmap (lay τ h0.next h.next) v0 ∧ h' = mergeH τ h0 h h0') := by
  refine ⟨hs.1, fun ρ T w vs hR hl => ?_⟩
  obtain ⟨S, h1, h2, h3, h4, h5⟩ := hR
  have hpart := Rel.part (h0 := h0) (τ := τ) h1 h2 h3 hinj hfit
  let ρ0 : Ren := fun i => if i < h0.next then ρ (τ i) else none
  let T0 : Nat → Prop := fun b => ∃ i o0, h0.get i = some o0 ∧ isRo o0 = false ∧ S (τ i) b
  have hρ0 : ∀ i, i < h0.next → ρ0 i = ρ (τ i) := fun i hi => by simp [ρ0, hi]
  have hR0 : Rel h0 ρ0 (fun b => T0 b ∨ w.heap.size ≤ b) w := by
    obtain ⟨S0, r1, r2, r3, r4⟩ := hpart
    refine ⟨S0, fun i o hi => ?_, r2, fun i o b hi hS => ⟨.inl (r3 i o b hi hS).1, (r3 i o b hi hS).2⟩, r4, fun b hb => .inr hb⟩
    obtain ⟨a, ha, hh⟩ := r1 i o hi
    refine ⟨a, ha, ?_⟩
    cases hr : isRo o with
    | false => exact hh.turnT hr
    | true =>
      cases o <;> simp [isRo] at hr
      rcases hh with h0 | ⟨hT, arr, e, f, g1, g2⟩
      · exact .inl h0
      refine .inr ⟨fun hT' => ?_, arr, e, f, g1, g2⟩
      rcases hT' with hT' | hT'
      · exact hT hT'
      · have : a.blk < w.heap.size := (Array.getElem?_eq_some_iff.1 g1).1
        omega
  have hl0 : LRel ρ0 args0 vs.toList := LRel.lback hρ0 _ _ hbel (by rw [hargs]; exact hl)
  refine (hs.2 ρ0 _ w vs hR0 hl0).mono ?_
  rintro e w' ⟨ρ0', v0, u, h0', q1, q2, q3, q4, rfl, q5, q6⟩
  have hT0' : ∀ b, T0 b → ∃ i o, i < h0.next ∧ gives h0 i = true ∧ h.get (τ i) = some o ∧ S (τ i) b := by
    rintro b ⟨i, o0, hi, hr, hS⟩
    obtain ⟨hlt, _, o, ho, _⟩ := hfit i o0 hi
    exact ⟨i, o, hlt, by simp [gives, hi, hr], ho, hS⟩
  have hlow : ∀ j o, h.get j = some o → j < h.next := fun j o hj => by
    obtain ⟨a, ha, _⟩ := h1 j o hj
    rcases Nat.lt_or_ge j h.next with h' | h'
    · exact h'
    · rw [h4 j h'] at ha; cases ha
  obtain ⟨ρ', b1, b2, b3, b4, b5⟩ := Rel.back (h' := mergeH τ h0 h h0') (own := fun i => gives h0 i = true) (τ := τ) (k0 := h0.next) (ρ0' := ρ0') (h0' := noRo h0') (T0 := T0) h1 h2 h3 h4 h5 hT0' hτ q5
    (fun i hi => (q1 i hi).trans (hρ0 i hi)) q2 (q3.relS.less rfl fun i o hi => (noRo_get hi).1)
    (fun i o0 hi hr => by rw [(noRo_get hi).2] at hr; cases hr) (by rw [mergeH_eq]; rfl)
    (fun j o hj => by
      rw [mergeH_eq] at hj
      have hj' : (mergeL (lay τ h0.next h.next) (fun i => Nat.blt i h0.next && !gives h0 i) h0' (List.range h0'.next) h.m).get j = some o := hj
      rcases mergeL_get _ _ h0' _ _ j o hj' with ⟨hm, hne⟩ | ⟨i, o0, hi, hsk, ho0, hr, rfl, rfl⟩
      · refine .inl ⟨hlow j o hm, hm, fun i hik hgv => ?_⟩
        have hi : i ∈ List.range h0'.next := List.mem_range.2 (Nat.lt_of_lt_of_le hik q2)
        have := hne i hi (by simp [hgv])
        simpa [lay, hik] using this
      · refine .inr ⟨i, o0, noRo_of ho0 hr, ?_, rfl, rfl⟩
        simp only [Bool.and_eq_false_iff, Bool.not_eq_false'] at hsk
        rcases hsk with h' | h'
        · refine .inl ?_
          rcases Nat.lt_or_ge i h0.next with hlt | hge
          · rw [nblt_iff.2 hlt] at h'; cases h'
          · exact hge
        · exact .inr h') hinj
  exact ⟨ρ', vmap (lay τ h0.next h.next) v0, u, mergeH τ h0 h h0', b2, by rw [mergeH_eq]; simp, b4, VRel.vmap b3 _ _ q4, rfl, b5, v0, h0', q6, rfl, rfl⟩

/-! ### States that say less -/
/-- The object o says all that o0 says, its numbers turned by τ. -/
def Soft (τ : Nat → Nat) (n : Nat) (o0 o : AObj) : Prop :=
  ∀ ρ ρ0 w T a S, (∀ i, i < n → ρ0 i = ρ (τ i)) → OHolds ρ w T a S o → OHolds ρ0 w T a S o0
theorem soft_map {τ : Nat → Nat} {n : Nat} {o0 : AObj} (hb : obelow n o0 = true) : Soft τ n o0 (omap τ o0) := fun _ _ _ _ _ _ hρ ho => OHolds.oback hρ hb ho
/-- Contents that say all that others say. -/
def CSoft (τ : Nat → Nat) (n : Nat) (c0 c : Cs) : Prop := ∀ k v, c0.get k = some v → v = .any ∨ (c.get k = some (vmap τ v) ∧ vbelow n v = true)
theorem CSoft.rel {τ : Nat → Nat} {n : Nat} {c0 c : Cs} (h : CSoft τ n c0 c) {ρ ρ0 : Ren} (hρ : ∀ i, i < n → ρ0 i = ρ (τ i)) {arr : Array Value} {b : Nat} (hc : CRel ρ c arr b) (hsz : b + c0.size ≤ arr.size) : CRel ρ0 c0 arr b := by
  intro k v hk
  rcases h k v hk with rfl | ⟨h1, h2⟩
  · have hlt := Cs.get_lt hk
    exact ⟨arr[b + k], by rw [Array.getElem?_eq_getElem], by simp only [VRel]⟩
  · obtain ⟨u, hu, hr⟩ := hc k _ h1
    exact ⟨u, hu, VRel.vback hρ v u h2 hr⟩
theorem csoft_map {τ : Nat → Nat} {n : Nat} {c0 : Cs} (hb : cbelow n c0 = true) : CSoft τ n c0 (cmap τ c0) :=
  fun k v hk => .inr ⟨by rw [cmap_get, hk], cbelow_get hb hk⟩
theorem soft_cells {τ : Nat → Nat} {n : Nat} {e : TypeId} {c0 c : Cs} (hsz : c0.size = c.size) (h : CSoft τ n c0 c) : Soft τ n (.cells e c0) (.cells e c) :=
  fun _ _ _ _ _ _ hρ ⟨h0, hS, arr, h1, h2, h3, h4⟩ => ⟨h0, hS, arr, h1, by omega, by omega, h.rel hρ h4 (by omega)⟩
theorem soft_cells_room {τ : Nat → Nat} {n : Nat} {e : TypeId} {c0 c : Cs} (hsz : c0.size ≤ c.size) (h : CSoft τ n c0 c) : Soft τ n (.room e c0) (.cells e c) :=
  fun _ _ _ _ _ _ hρ ⟨h0, hS, arr, h1, h2, h3, h4⟩ => ⟨h0, hS, arr, h1, by omega, by omega, h.rel hρ h4 (by omega)⟩
theorem soft_room {τ : Nat → Nat} {n : Nat} {e : TypeId} {c0 c : Cs} (hsz : c0.size ≤ c.size) (h : CSoft τ n c0 c) : Soft τ n (.room e c0) (.room e c) :=
  fun _ _ _ _ _ _ hρ ⟨h0, hS, arr, h1, h2, h3, h4⟩ => ⟨h0, hS, arr, h1, by omega, by omega, h.rel hρ h4 (by omega)⟩

theorem St.sub {k n : Nat} {ρ : Ren} {T : Nat → Prop} {fr fr' : Fr} {h h' : Heap} {a : Act} {w : World} (hs : St k n ρ T fr h a w) (τ : Nat → Nat) (hτk : ∀ i, i < k → τ i = i) (hk : k ≤ h'.next)
    (hinj : ∀ i j, i < h'.next → j < h'.next → τ i = τ j → i = j) (hobj : ∀ i o0, h'.get i = some o0 → i < h'.next ∧ ∃ o, h.get (τ i) = some o ∧ Soft τ h'.next o0 o)
    (hfr : ∀ t, look fr' t = .any ∨ (vmap τ (look fr' t) = look fr t ∧ vbelow h'.next (look fr' t) = true)) : ∃ ρ', (∀ i, i < k → ρ' i = ρ i) ∧ St k n ρ' T fr' h' a w := by
  obtain ⟨S, h1, h2, h3, h4, h5⟩ := hs.rel
  let ρ' : Ren := fun i => if i < h'.next then ρ (τ i) else none
  have hρ : ∀ i, i < h'.next → ρ' i = ρ (τ i) := fun i hi => by simp [ρ', hi]
  refine ⟨ρ', fun i hi => by rw [hρ i (by omega), hτk i hi], hk, ⟨fun i => S (τ i), fun i o0 hi => ?_, fun i j o o' b hi hj hij hSi hSj => ?_, fun i o0 b hi hS => ?_, fun i hi => by simp [ρ']; omega, h5⟩, ⟨hs.fr.size, hs.fr.defers, fun t => ?_⟩⟩
  · obtain ⟨hlt, o, ho, hsoft⟩ := hobj i o0 hi
    obtain ⟨x, hx, hh⟩ := h1 _ o ho
    exact ⟨x, by rw [hρ i hlt]; exact hx, hsoft ρ ρ' w T x _ hρ hh⟩
  · obtain ⟨hlt, x, hx, _⟩ := hobj i o hi
    obtain ⟨hlt', y, hy, _⟩ := hobj j o' hj
    exact h2 _ _ x y b hx hy (fun he => hij (hinj i j hlt hlt' he)) hSi hSj
  · obtain ⟨hlt, x, hx, _⟩ := hobj i o0 hi
    exact h3 _ x b hx hS
  · rcases hfr t with ht | ⟨ht, hb⟩
    · rw [ht]; simp only [VRel]
    · have := hs.fr.vals t
      rw [← ht] at this
      exact VRel.vback hρ _ _ hb this

/-- The checks of a state that says less, over lists. -/
def ObjSub (τ : Nat → Nat) (n : Nat) (h : Heap) : Nat → List AObj → Prop
  | _, [] => True
  | i, o :: os => (∃ o', h.get (τ i) = some o' ∧ Soft τ n o o') ∧ ObjSub τ n h (i + 1) os
def FrSub (τ : Nat → Nat) (n : Nat) (fr : Fr) : List (Nat × AV) → Prop
  | [] => True
  | (t, v) :: l => (vmap τ v = look fr t ∧ vbelow n v = true) ∧ FrSub τ n fr l
theorem ObjSub.get {τ : Nat → Nat} {n : Nat} {h : Heap} : ∀ {os : List AObj} {i : Nat}, ObjSub τ n h i os → ∀ j o, os[j]? = some o → ∃ o', h.get (τ (i + j)) = some o' ∧ Soft τ n o o'
  | [], _, _, j, o, hj => by simp at hj
  | x :: os, i, hs, 0, o, hj => by simp at hj; subst hj; exact hs.1
  | x :: os, i, hs, j + 1, o, hj => by
    have := hs.2.get j o (by simpa using hj)
    rw [show i + (j + 1) = i + 1 + j by omega]
    exact this
theorem FrSub.look {τ : Nat → Nat} {n : Nat} {fr : Fr} : ∀ {l : List (Nat × AV)}, FrSub τ n fr l → ∀ t, look (frL l) t = .any ∨ (vmap τ (look (frL l) t) = look fr t ∧ vbelow n (look (frL l) t) = true)
  | [], _, t => .inl rfl
  | (s, v) :: l, hs, t => by
    have ih := hs.2.look t
    have : SE.look (frL ((s, v) :: l)) t = if t = s then v else SE.look (frL l) t := by
      simp only [SE.look, frL, PM.get_set]
      by_cases ht : t = s
      · simp [ht]
      · simp [ht]
    rw [this]
    by_cases ht : t = s
    · subst ht; rw [if_pos rfl]; exact .inr hs.1
    · rw [if_neg ht]; exact ih
/-- The numbers that a state of its own gives: the first k stay. -/
def idsOk (k : Nat) (ids : List Nat) (m : Nat) : Bool := Nat.beq ids.length m && Nat.ble k m && decide ids.Nodup && decide (ids.take k = List.range k)
theorem idsOk_spec {k m : Nat} {ids : List Nat} (h : idsOk k ids m = true) : k ≤ m ∧ (∀ i, i < k → atL ids i = i) ∧ ∀ i j, i < m → j < m → atL ids i = atL ids j → i = j := by
  simp only [idsOk, Bool.and_eq_true, decide_eq_true_eq, Nat.ble_eq] at h
  obtain ⟨⟨⟨h1, h2⟩, h3⟩, h4⟩ := h
  have h1 := Nat.eq_of_beq_eq_true h1
  refine ⟨h2, fun i hi => ?_, fun i j hi hj he => ?_⟩
  · have : (ids.take k)[i]? = some i := by rw [h4]; simp [hi]
    rw [List.getElem?_take, if_pos hi] at this
    simp [atL, List.getD_eq_getElem?_getD, this]
  · have hi' : i < ids.length := by omega
    have hj' : j < ids.length := by omega
    simp only [atL, List.getD_eq_getElem?_getD, List.getElem?_eq_getElem hi', List.getElem?_eq_getElem hj', Option.getD_some] at he
    exact (List.getElem_inj h3).1 he

theorem St.subL {k n : Nat} {ρ : Ren} {T : Nat → Prop} {fr : Fr} {h : Heap} {a : Act} {w : World} (hs : St k n ρ T fr h a w) (m : Nat) (ids : List Nat) (l : List (Nat × AV)) (os : List AObj) (hm : os.length = m) (hids : idsOk k ids m = true)
    (hobj : ObjSub (atL ids) m h 0 os) (hfr : FrSub (atL ids) m fr l) : ∃ ρ', (∀ i, i < k → ρ' i = ρ i) ∧ St k n ρ' T (frL l) (hO m os) a w := by
  subst hm
  show ∃ ρ', (∀ i, i < k → ρ' i = ρ i) ∧ St k n ρ' T (frL l) (hOf os) a w
  obtain ⟨h1, h2, h3⟩ := idsOk_spec hids
  refine hs.sub (atL ids) h2 h1 h3 (fun i o0 hi => ?_) hfr.look
  rw [hOf_get] at hi
  obtain ⟨o, ho, hsf⟩ := hobj.get i o0 hi
  rw [Nat.zero_add] at ho
  exact ⟨(List.getElem?_eq_some_iff.1 hi).1, o, ho, hsf⟩

section
variable {P : Program} {k n : Nat} {fr : Fr} {h : Heap}
theorem awp_sub {c : Code} {Q : Exit → Fr → Heap → Prop} (m : Nat) (ids : List Nat) (l : List (Nat × AV)) (os : List AObj) (hm : os.length = m) (hids : idsOk k ids m = true)
    (hobj : ObjSub (atL ids) m h 0 os) (hfr : FrSub (atL ids) m fr l) (hc : AWp P k n c Q (frL l) (hO m os)) : AWp P k n c Q fr h := by
  intro ρ T w a hs
  obtain ⟨ρ', h1, h2⟩ := hs.subL m ids l os hm hids hobj hfr
  exact wp_mono (hc ρ' T w a h2) (apost_trans h1 (Keeps.refl _ _))
theorem rplan_sub {ops : Array Oper} {pl : List Stp} {Q : Fr → Heap → Prop} (m : Nat) (ids : List Nat) (l : List (Nat × AV)) (os : List AObj) (hm : os.length = m) (hids : idsOk k ids m = true)
    (hobj : ObjSub (atL ids) m h 0 os) (hfr : FrSub (atL ids) m fr l) (hc : RPlan P k n ops pl Q (frL l) (hO m os)) : RPlan P k n ops pl Q fr h := by
  intro ρ T w a hs
  obtain ⟨ρ', h1, h2⟩ := hs.subL m ids l os hm hids hobj hfr
  exact wpPlan_mono (rpost_mono h1 (Keeps.refl _ _)) pl a w (hc ρ' T w a h2)
/-- In a post: a state that says less. -/
def Less (k : Nat) (Q : Fr → Heap → Prop) (fr : Fr) (h : Heap) : Prop :=
  ∃ m ids l os, os.length = m ∧ idsOk k ids m = true ∧ ObjSub (atL ids) m h 0 os ∧ FrSub (atL ids) m fr l ∧ Q (frL l) (hO m os)
theorem After.less {ρ₀ : Ren} {T : Nat → Prop} {w₀ : World} {Q : Fr → Heap → Prop} {a : Act} {w : World} (hh : After k n ρ₀ T w₀ (Less k Q) a w) : After k n ρ₀ T w₀ Q a w := by
  obtain ⟨ρ, fr, h, h1, h2, h3, m, ids, l, os, q0, q1, q2, q3, q4⟩ := hh
  obtain ⟨ρ', r1, r2⟩ := h2.subL m ids l os q0 q1 q2 q3
  exact ⟨ρ', frL l, hO m os, fun i hi => (r1 i hi).trans (h1 i hi), r2, h3, q4⟩
def lessQ (k : Nat) (Q : Exit → Fr → Heap → Prop) : Exit → Fr → Heap → Prop := fun e fr h => Q e fr h ∨ Less k (Q e) fr h
theorem After.orLess {ρ₀ : Ren} {T : Nat → Prop} {w₀ : World} {Q : Fr → Heap → Prop} {a : Act} {w : World} (hh : After k n ρ₀ T w₀ (fun fr h => Q fr h ∨ Less k Q fr h) a w) : After k n ρ₀ T w₀ Q a w := by
  obtain ⟨ρ, fr, h, h1, h2, h3, h4 | h4⟩ := hh
  · exact ⟨ρ, fr, h, h1, h2, h3, h4⟩
  · exact After.less ⟨ρ, fr, h, h1, h2, h3, h4⟩
theorem awp_less {c : Code} {Q : Exit → Fr → Heap → Prop} (hc : AWp P k n c (lessQ k Q) fr h) : AWp P k n c Q fr h :=
  fun ρ T w a hs => wp_mono (hc ρ T w a hs) fun e a w hh => by cases e <;> first | exact After.orLess hh | exact hh.elim
end

/-! ### Many steps at once -/
def runPlan (u : Bool) (tt : TT) (n : Nat) (ops : Array Oper) : List Stp → Fr → Heap → Option (Fr × Heap)
  | [], fr, h => some (fr, h)
  | .nn i :: r, fr, h => match stepN tt n ops i fr with
    | some fr' => runPlan u tt n ops r fr' h
    | none => none
  | .rr l :: r, fr, h => match stillL tt n ops l fr h with
    | some fr' => runPlan u tt n ops r fr' h
    | none => none
  | .xx i :: r, fr, h => match stepX u tt n ops i fr h with
    | some (fr', h') => runPlan u tt n ops r fr' h'
    | none => none
theorem rplan_run {P : Program} {tt : TT} (hT : tt.ok P) {k n : Nat} {ops : Array Oper} {Q : Fr → Heap → Prop} (u : Bool) : ∀ (pl rest : List Stp) (fr fr' : Fr) (h h' : Heap), runPlan u tt n ops pl fr h = some (fr', h') →
    RPlan P k n ops rest Q fr' h' → RPlan P k n ops (pl ++ rest) Q fr h
  | [], rest, fr, fr', h, h', hr, hn => by simp only [runPlan, Option.some.injEq, Prod.mk.injEq] at hr; obtain ⟨rfl, rfl⟩ := hr; exact hn
  | .nn i :: r, rest, fr, fr', h, h', hr, hn => by
    simp only [runPlan] at hr
    split at hr
    · rename_i f2 h2; exact rplan_nn hT h2 (rplan_run hT u r rest f2 fr' h h' hr hn)
    · cases hr
  | .rr l :: r, rest, fr, fr', h, h', hr, hn => by
    simp only [runPlan] at hr
    split at hr
    · rename_i f2 h2; exact rplan_rr hT h2 (rplan_run hT u r rest f2 fr' h h' hr hn)
    · cases hr
  | .xx i :: r, rest, fr, fr', h, h', hr, hn => by
    simp only [runPlan] at hr
    split at hr
    · rename_i f2 g2 h2; exact rplan_xx hT u h2 (rplan_run hT u r rest f2 fr' g2 h' hr hn)
    · cases hr
theorem rplan_all {P : Program} {tt : TT} (hT : tt.ok P) {k n : Nat} {ops : Array Oper} {Q : Fr → Heap → Prop} (u : Bool) {pl : List Stp} {fr fr' : Fr} {h h' : Heap} (hr : runPlan u tt n ops pl fr h = some (fr', h'))
    (hq : Q fr' h') : RPlan P k n ops pl Q fr h := by
  have := rplan_run (k := k) (Q := Q) hT u pl [] fr fr' h h' hr (rplan_nil hq)
  rwa [List.append_nil] at this

/-! ### A function from its body -/
def resA (tt : TT) (fr : Fr) (h : Heap) : List ResultVar → Option (List AV)
  | [] => some []
  | .tmp t :: r => match resA tt fr h r with
    | some l => some (look fr t :: l)
    | none => none
  | .cell a ty :: r => match loadA tt ty (look fr a) h, resA tt fr h r with
    | some v, some l => some (v :: l)
    | _, _ => none
def retA (tt : TT) (fn : Func) (fr : Fr) (h : Heap) : Option AV :=
  match resA tt fr h fn.results.toList with
  | some [v] => some v
  | some l => some (.tup l)
  | none => none

def resS (tmps : Array Value) : ResultVar → Sem Value
  | .tmp t => pure (tmps.getD t undef)
  | .cell a t => do loadVar t (← asAddr (tmps.getD a undef))

theorem resA_ok {P : Program} {tt : TT} (hT : tt.ok P) {k n : Nat} {ρ : Ren} {T : Nat → Prop} {fr : Fr} {h : Heap} {a : Act} {w : World} (hs : St k n ρ T fr h a w) : ∀ (l : List ResultVar) (r : List AV), resA tt fr h l = some r →
    ∃ us, (l.mapM (resS a.tmps)).run P w = .ok us w ∧ LRel ρ r us
  | [], r, hr => by simp only [resA, Option.some.injEq] at hr; subst hr; exact ⟨[], by simp, .nil⟩
  | .tmp t :: l, r, hr => by
    simp only [resA] at hr
    split at hr
    · rename_i l' hl
      cases hr
      obtain ⟨us, h1, h2⟩ := resA_ok (P := P) hT hs l l' hl
      exact ⟨_ :: us, by simp [resS, h1], .cons (hs.fr.vals t) h2⟩
    · cases hr
  | .cell x ty :: l, r, hr => by
    simp only [resA] at hr
    split at hr
    · rename_i v l' hv hl
      cases hr
      obtain ⟨us, h1, h2⟩ := resA_ok (P := P) hT hs l l' hl
      obtain ⟨u, hu, hur⟩ := loadA_ok (P := P) hT hs.rel hv (hs.fr.vals x)
      have hvx := hs.fr.vals x
      refine ⟨u :: us, ?_, .cons hur h2⟩
      unfold loadA at hv
      split at hv
      · rename_i i o hx
        rw [hx] at hvx; simp only [VRel] at hvx
        obtain ⟨b, _, hb⟩ := hvx
        have hu' : (loadVar ty ⟨b.blk, b.base + o, none⟩).run P w = .ok u w := by
          rw [hb] at hu
          simpa [Instr.loadAt, Instr.sureAddr] using hu
        simp only [List.mapM_cons, resS, hb, asAddr, Sem.run_bind, Sem.run_pure, Result.andThen_ok, hu', h1]
      · cases hv
    · cases hr

theorem retA_ok {P : Program} {tt : TT} (hT : tt.ok P) {k n : Nat} {ρ : Ren} {T : Nat → Prop} {fr : Fr} {h : Heap} {a : Act} {w : World} (hs : St k n ρ T fr h a w) {fn : Func} {v : AV} (hr : retA tt fn fr h = some v) :
    ∃ u, (results fn a.tmps).run P w = .ok u w ∧ VRel ρ v u := by
  unfold retA at hr
  have main : ∀ r, resA tt fr h fn.results.toList = some r → ∃ us : List Value, (results fn a.tmps).run P w = .ok (if h : us.toArray.size = 1 then us.toArray[0] else .tuple us.toArray) w ∧ LRel ρ r us := by
    intro r hrr
    obtain ⟨us, h1, h2⟩ := resA_ok (P := P) hT hs _ r hrr
    refine ⟨us, ?_, h2⟩
    have he : (fn.results.mapM (resS a.tmps)).run P w = .ok us.toArray w := by
      rw [Array.mapM_eq_mapM_toList, Sem.run_map, h1]; rfl
    unfold results
    simp only [Sem.run_bind]
    refine (congrArg (fun r => Result.andThen r _) (?_ : _ = Result.ok us.toArray w)).trans rfl
    rw [← he]
    congr 2
  split at hr
  · rename_i x hx
    cases hr
    obtain ⟨us, h1, h2⟩ := main _ hx
    simp only [LRel] at h2
    obtain ⟨u, us', rfl, h3, rfl⟩ := h2
    exact ⟨u, by simpa using h1, h3⟩
  · rename_i l hne hx
    cases hr
    obtain ⟨us, h1, h2⟩ := main _ hx
    have hl : us.length ≠ 1 := fun h1 => by
      rw [← h2.length] at h1
      match l, h1 with
      | [y], _ => exact hne y rfl
    refine ⟨.tuple us.toArray, ?_, by simp only [VRel]; exact ⟨_, rfl, by simpa using h2⟩⟩
    rw [h1, dif_neg (by simpa using hl)]
  · cases hr

/-- The frame at a function's beginning. -/
def entryF (args : List AV) : Fr := Cs.putAt args 0 .leaf
theorem look_entry (args : List AV) (t : Nat) : look (entryF args) t = args.getD t .any := by
  simp only [look, entryF, Cs.putAt_get, Nat.zero_le, true_and, Nat.zero_add, Nat.sub_zero, HM.get_leaf, List.getD_eq_getElem?_getD]
  by_cases h : t < args.length
  · rw [if_pos h]; simp [h]
  · rw [if_neg h]; simp [h]

theorem spec_of_awp {P : Program} {tt : TT} (hT : tt.ok P) {f : FuncId} {fn : Func} {c : Code} {args : List AV} {h : Heap} {K : AV → Heap → Prop} (hf : P.funcs[f]? = some fn) (hn : (fn.name == "runtime.NumGoroutine") = false)
    (hb : fn.body = some c) (hl : Nat.ble args.length fn.ntmps = true)
    (hc : AWp P h.next fn.ntmps c (fun e fr' h' => (e = .normal ∨ e = .ret) ∧ ∃ v, retA tt fn fr' h' = some v ∧ K v h') (entryF args) h) : Sp P f args h K := by
  refine ⟨⟨fn, hf, hn, by rw [hb]; rfl⟩, fun ρ T w vs hR hlr => ?_⟩
  refine calls_of_wp hf hb ?_
  have hlen : vs.size = args.length := by rw [← Array.length_toList, ← hlr.length]
  have hle : args.length ≤ fn.ntmps := by simpa using hl
  have hst : St h.next fn.ntmps ρ T (entryF args) h { tmps := vs ++ Array.replicate (fn.ntmps - vs.size) undef, defers := [] } w := by
    refine ⟨Nat.le_refl _, hR, ⟨by simp; omega, rfl, fun t => ?_⟩⟩
    rw [look_entry, Array.getD_eq_getD_getElem?, List.getD_eq_getElem?_getD]
    by_cases ht : t < args.length
    · obtain ⟨u, hu, hr⟩ := hlr.get t args[t] (by simp [ht])
      have : (vs ++ Array.replicate (fn.ntmps - vs.size) undef)[t]? = some u := by
        rw [Array.getElem?_append_left (by omega)]; simpa using hu
      simpa [this, ht] using hr
    · simp only [List.getElem?_eq_none (Nat.le_of_not_lt ht), Option.getD_none, VRel]
  refine wp_mono (hc ρ T w _ hst) fun e a' w' hh => ?_
  have fin : ∀ e, After h.next fn.ntmps ρ T w (fun fr' h' => (e = Exit.normal ∨ e = .ret) ∧ ∃ v, retA tt fn fr' h' = some v ∧ K v h') a' w' → (e = .normal ∨ e = .ret) ∧ a'.defers = [] ∧ ∃ v, (results fn a'.tmps).run P w' = .ok v w' ∧
      ∃ ρ' v0 u h', (∀ i, i < h.next → ρ' i = ρ i) ∧ h.next ≤ h'.next ∧ Rel h' ρ' T w' ∧ VRel ρ' v0 u ∧ Ending.returned v = .returned u ∧ Keeps T w w' ∧ K v0 h' := by
    rintro e ⟨ρ', fr', h', q1, q2, q3, q4, v, q5, q6⟩
    obtain ⟨u, hu, hr⟩ := retA_ok (P := P) hT q2 q5
    exact ⟨q4, q2.fr.defers, u, hu, ρ', v, u, h', q1, q2.le, q2.rel, hr, rfl, q3, q6⟩
  cases e with
  | normal => exact (fin .normal hh).2
  | ret => exact (fin .ret hh).2
  | exit id => have := (fin (.exit id) hh).1; simp at this
  | _ => exact hh.elim
end Go.Proofs.YtpbdlibgbkhlhaaGreat.SE
