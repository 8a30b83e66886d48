/- A region that draws its order: a plan of its operations (still ones first, then loads, then one that acts) stands for every order.
   Conditions: the plan meets the Bool check 'planOk'. -/
import Derived.Orders
import Derived.Still
namespace Go.Proofs.YtpbdlibgbkhlhaaGreat.SE
open Go

/-- One part of a plan: an operation that yields in every world; operations that yield in the world at hand; one that acts. -/
inductive Stp where
  | nn (i : Nat)
  | rr (l : List Nat)
  | xx (i : Nat)

section
variable {P : Program} {ops : Array Oper} {Q : Exit → Act → World → Prop}

/-- The operations of a list, one behind the other, all in the world w, which stays. -/
def wpStillL (P : Program) (ops : Array Oper) (w : World) (K : Act → Prop) : List Nat → Act → Prop
  | [], a => K a
  | i :: rest, a => ∃ o v, ops[i]? = some o ∧ YieldsAt P ops w o v a ∧ wpStillL P ops w K rest (a.put o.dst v)

def wpPlan (P : Program) (ops : Array Oper) (Q : Exit → Act → World → Prop) : List Stp → Act → World → Prop
  | [], a, w => Q .normal a w
  | .nn i :: rest, a, w => ∃ o v, ops[i]? = some o ∧ Yields P ops o v a ∧ wpPlan P ops Q rest (a.put o.dst v) w
  | .rr l :: rest, a, w => wpStillL P ops w (fun a' => wpPlan P ops Q rest a' w) l a
  | .xx i :: rest, a, w => wpOp P ops Q i (wpPlan P ops Q rest) a w

def mark (listed : Array Bool) (l : List Nat) : Array Bool := l.foldl (fun s i => s.setIfInBounds i true) listed

/-- The greatest state that does not have r: all of l that can be had without it. -/
def without (ops : Array Oper) (r : Nat) (l : List Nat) : Nat → Array Bool → Array Bool
  | 0, s => s
  | n + 1, s => match ((Region.ready .any ops s).filter fun i => i != r && l.contains i) with
    | [] => s
    | i :: _ => without ops r l n (s.setIfInBounds i true)

def leB (s t : Array Bool) : Bool := s.size == t.size && (List.range s.size).all fun i => !s.getD i false || t.getD i false

/-- May the operations of l come in every order, each ahead of all others of the region? -/
def blockOk (ops : Array Oper) (l : List Nat) (listed : Array Bool) : Bool :=
  l.all fun r =>
    let s := without ops r l ops.size listed
    leB listed s && leB s (mark listed l) && (Region.ready .any ops s == [r])

/-- Each of l, taken in l's order, can come up then, is not yet listed, and nobody who can come ahead of it touches its temporaries. -/
def chainOk (ops : Array Oper) : List Nat → Array Bool → Bool
  | [], _ => true
  | i :: rest, s => (Region.ready .any ops s).contains i && Region.free .any ops s i && decide (i < ops.size) && chainOk ops rest (s.setIfInBounds i true)

def planOk (ops : Array Oper) : List Stp → Array Bool → Bool
  | [], s => (Region.ready .any ops s).isEmpty
  | .nn i :: rest, s => (Region.ready .any ops s).contains i && Region.free .any ops s i && planOk ops rest (s.setIfInBounds i true)
  | .rr l :: rest, s => !l.isEmpty && chainOk ops l s && blockOk ops l s && planOk ops rest (mark s l)
  | .xx i :: rest, s => Region.ready .any ops s == [i] && planOk ops rest (s.setIfInBounds i true)

/-- Operations that look at no memory, and those that only read. -/
def isN : Op → Bool
  | .move _ | .assign _ | .pick .. | .nilCheck _ | .binOp .. | .unOp .. | .makeFunc .. | .slice .. | .fieldAddr .. | .field .. | .indexAddr .. | .index .. | .extract .. | .build .. => true
  | .convert .. => true
  | .call c => match c.callee with
    | .builtin .len => true
    | .builtin .cap => true
    | .builtin .min => true
    | .builtin .max => true
    | _ => false
  | _ => false
def isR : Op → Bool
  | .load .. => true
  | _ => false
/-- All that can come up without an operation that acts. -/
def stillFrom (ops : Array Oper) (bad : List Nat) : Nat → Array Bool → List Nat
  | 0, _ => []
  | n + 1, s => match (Region.ready .any ops s).find? (fun i => (isN (ops.getD i default).op || isR (ops.getD i default).op) && !bad.contains i) with
    | none => []
    | some i => i :: stillFrom ops bad n (s.setIfInBounds i true)
/-- A plan of a region, found by looking; 'bad': what is to be taken for one that acts. -/
def planGo (ops : Array Oper) (bad : List Nat) : Nat → Array Bool → List Stp
  | 0, _ => []
  | n + 1, s => match (Region.ready .any ops s).find? (fun i => isN (ops.getD i default).op && !bad.contains i) with
    | some i => .nn i :: planGo ops bad n (s.setIfInBounds i true)
    | none => match stillFrom ops bad ops.size s with
      | [] => match Region.ready .any ops s with
        | i :: _ => .xx i :: planGo ops bad n (s.setIfInBounds i true)
        | [] => []
      | l => .rr l :: planGo ops bad n (mark s l)
def planOf (ops : Array Oper) : List Stp := planGo ops [] ops.size (Array.replicate ops.size false)

def planLen : List Stp → Nat
  | [] => 0
  | .nn _ :: rest => planLen rest + 1
  | .rr l :: rest => planLen rest + l.length
  | .xx _ :: rest => planLen rest + 1

theorem leB_spec {s t : Array Bool} (h : leB s t = true) : s.size = t.size ∧ ∀ i, s.getD i false = true → t.getD i false = true := by
  simp only [leB, Bool.and_eq_true, beq_iff_eq, List.all_eq_true, List.mem_range, Bool.or_eq_true, Bool.not_eq_true'] at h
  refine ⟨h.1, fun i hi => ?_⟩
  rcases Nat.lt_or_ge i s.size with h' | h'
  · exact (h.2 i h').resolve_left (by rw [hi]; simp)
  · simp [Array.getElem?_eq_none h'] at hi

theorem mark_size (l : List Nat) : ∀ s : Array Bool, (mark s l).size = s.size := by
  induction l with
  | nil => intro s; rfl
  | cons i l ih => intro s; show (mark (s.setIfInBounds i true) l).size = s.size; rw [ih]; simp

theorem mark_getD (l : List Nat) : ∀ (s : Array Bool) (j : Nat), (mark s l).getD j false = true → s.getD j false = true ∨ j ∈ l := by
  induction l with
  | nil => intro s j h; exact .inl h
  | cons i l ih =>
    intro s j h
    rcases ih (s.setIfInBounds i true) j h with h | h
    · by_cases hij : i = j
      · exact .inr (by simp [hij])
      · rw [getD_set_ne false hij] at h; exact .inl h
    · exact .inr (by simp [h])

theorem ready_le {s t : Array Bool} (hle : ∀ i, s.getD i false = true → t.getD i false = true) (hsz : s.size = t.size) (hops : s.size = ops.size)
    {j : Nat} (hj : j ∈ Region.ready .any ops s) : t.getD j false = true ∨ j ∈ Region.ready .any ops t := by
  rw [mem_ready] at hj
  obtain ⟨h0, o, ho, hall⟩ := hj
  have hlt : j < t.size := by
    have := (Array.getElem?_eq_some_iff.1 ho).1
    omega
  cases ht : t.getD j false with
  | true => exact .inl rfl
  | false =>
    refine .inr (mem_ready.2 ⟨?_, o, ho, fun e he hb => hle _ (hall e he hb)⟩)
    simp [hlt] at ht ⊢; exact ht

theorem YieldsAt.wpOp' {w : World} {i : Nat} {o : Oper} {v : Value} {a : Act} (hi : ops[i]? = some o) (hy : YieldsAt P ops w o v a)
    {K : Act → World → Prop} (h : K (a.put o.dst v) w) : wpOp P ops Q i K a w :=
  wpOp_of_stOp (K := fun a' => K a' w) (fun _ h => h) (hy.stOp hi h)

/-- The operations of l that can come up are carried out in whatever order, in the world w. -/
def wpAnyB (P : Program) (ops : Array Oper) (w : World) (l : List Nat) (K : Act → Prop) : Nat → Array Bool → Act → Prop
  | 0, s, a => (∀ j ∈ Region.ready .any ops s, j ∈ l → False) ∧ K a
  | fuel + 1, s, a => ((∀ j ∈ Region.ready .any ops s, j ∈ l → False) → K a) ∧
      ∀ i ∈ Region.ready .any ops s, i ∈ l → stOp P ops w i (wpAnyB P ops w l K fuel (s.setIfInBounds i true)) a

theorem wpAnyB_first {w : World} {l : List Nat} {K : Act → Prop} {i : Nat} {oi : Oper} {v : Value} (hi : ops[i]? = some oi) (hil : i ∈ l)
    (hsel : ∀ (j : Nat) (o : Oper) cs b, ops[j]? = some o → o.op ≠ .select cs b) :
    ∀ (fuel : Nat) (s : Array Bool) (a : Act),
      (∀ j oj, ops[j]? = some oj → j ≠ i → s.getD j true = false → (∀ e ∈ oj.after, Region.binds .any e = true → e.on ≠ i) → oi.apart ops oj = true) →
      i ∈ Region.ready .any ops s → YieldsAt P ops w oi v a →
      wpAnyB P ops w l K fuel (s.setIfInBounds i true) (a.put oi.dst v) → wpAnyB P ops w l K (fuel + 1) s a := by
  intro fuel
  induction fuel with
  | zero =>
    intro s a _ hr hy H
    refine ⟨fun h => (h i hr hil).elim, fun j hj hjl => ?_⟩
    by_cases hji : j = i
    · subst hji; exact hy.stOp hi H
    · exact (H.1 j (ready_mono hj hji) hjl).elim
  | succ fuel ih =>
    intro s a hfree hr hy H
    refine ⟨fun h => (h i hr hil).elim, fun j hj hjl => ?_⟩
    by_cases hji : j = i
    · subst hji; exact hy.stOp hi H
    · have h1 := H.2 j (ready_mono hj hji) hjl
      obtain ⟨hjun, oj, hoj, hall⟩ := mem_ready.1 hj
      have hnot : ∀ e ∈ oj.after, Region.binds .any e = true → e.on ≠ i := fun e he hb heq => by
        have h1 := hall e he hb
        have h0 := (mem_ready.1 hr).1
        rw [heq] at h1
        rcases Nat.lt_or_ge i s.size with h' | h'
        · simp [h'] at h0 h1; rw [h0] at h1; cases h1
        · simp [Array.getElem?_eq_none h'] at h1
      have h2 := stOp_put hoj (hfree j oj hoj hji hjun hnot) (fun cs b => hsel i oi cs b hi) (fun cs b => hsel j oj cs b hoj) hy h1
      have hfree' : ∀ k ok, ops[k]? = some ok → k ≠ i → (s.setIfInBounds j true).getD k true = false →
          (∀ e ∈ ok.after, Region.binds .any e = true → e.on ≠ i) → oi.apart ops ok = true := fun k ok hk hki hun hno => by
        refine hfree k ok hk hki ?_ hno
        by_cases hjk : j = k
        · subst hjk; exact hjun
        · rw [getD_set_ne true hjk] at hun; exact hun
      refine stOp_mono (fun a' h3 => ih (s.setIfInBounds j true) a' hfree' (ready_mono hr (Ne.symm hji)) h3.1 ?_) h2
      rw [Array.setIfInBounds_comm _ _ hji]
      exact h3.2

theorem wpAnyB_of_chain {w : World} {l : List Nat} {K : Act → Prop} (hs : Region.noSelect ops = true) :
    ∀ (r : List Nat) (s : Array Bool) (a : Act), (∀ i ∈ r, i ∈ l) → (∀ j ∈ l, j ∈ r ∨ s.getD j false = true) →
      chainOk ops r s = true → s.size = ops.size → wpStillL P ops w K r a → wpAnyB P ops w l K r.length s a
  | [], s, a, _, hall, _, _, h => ⟨fun j hj hjl => by
      rcases hall j hjl with h' | h'
      · cases h'
      · have h0 := (mem_ready.1 hj).1
        rcases Nat.lt_or_ge j s.size with hlt | hge
        · simp [hlt] at h0 h'; rw [h0] at h'; cases h'
        · simp [Array.getElem?_eq_none hge] at h', h⟩
  | i :: r, s, a, hsub, hall, hc, hsz, ⟨o, v, ho, hy, h⟩ => by
    simp only [chainOk, Bool.and_eq_true, decide_eq_true_eq] at hc
    obtain ⟨⟨⟨hr, hf⟩, hlt⟩, hc'⟩ := hc
    refine wpAnyB_first ho (hsub i (by simp)) (Region.noSelect_spec hs) r.length s a (Region.free_spec ho hf) (by simpa using hr) hy ?_
    refine wpAnyB_of_chain hs r _ _ (fun j hj => hsub j (by simp [hj])) (fun j hj => ?_) hc' (by simp [hsz]) h
    by_cases hij : i = j
    · subst hij; exact .inr (by simp [hsz, hlt])
    · rcases hall j hj with h' | h'
      · rcases List.mem_cons.1 h' with h'' | h''
        · exact absurd h''.symm hij
        · exact .inl h''
      · exact .inr (getD_set_true h')

/-- While one of l is still to come, one of l can come up. -/
theorem chain_ready {l : List Nat} : ∀ (r : List Nat) (s t : Array Bool), chainOk ops r s = true → s.size = ops.size → t.size = s.size →
    (∀ i, s.getD i false = true → t.getD i false = true) → (∃ j ∈ r, t.getD j false = false) → ∃ j ∈ r, j ∈ Region.ready .any ops t
  | [], _, _, _, _, _, _, ⟨_, hj, _⟩ => by cases hj
  | i :: r, s, t, hc, hsz, htz, hle, ⟨j, hj, hjt⟩ => by
    simp only [chainOk, Bool.and_eq_true, decide_eq_true_eq] at hc
    obtain ⟨⟨⟨hr, hf⟩, hlt⟩, hc'⟩ := hc
    cases ht : t.getD i false with
    | false =>
      rcases ready_le hle htz.symm hsz (by simpa using hr) with h | h
      · rw [ht] at h; cases h
      · exact ⟨i, by simp, h⟩
    | true =>
      have hji : j ≠ i := fun h => by rw [h, ht] at hjt; cases hjt
      have hjr : j ∈ r := by
        rcases List.mem_cons.1 hj with h | h
        · exact absurd h hji
        · exact h
      obtain ⟨k, hk, hkr⟩ := chain_ready (l := l) r (s.setIfInBounds i true) t hc' (by simp [hsz]) (by simp [htz]) (fun k hk => by
        by_cases hik : i = k
        · subst hik; exact ht
        · rw [getD_set_ne false hik] at hk; exact hle k hk) ⟨j, hjr, hjt⟩
      exact ⟨k, by simp [hk], hkr⟩

theorem ext_of_getD {s t : Array Bool} (hsz : s.size = t.size) (h : ∀ i, s.getD i false = t.getD i false) : s = t := by
  apply Array.ext hsz
  intro i h1 h2
  have := h i
  simpa [h1, h2] using this

theorem mark_mem {l : List Nat} : ∀ (s : Array Bool) (j : Nat), j ∈ l → j < s.size → (mark s l).getD j false = true := by
  induction l with
  | nil => intro s j h; cases h
  | cons i l ih =>
    intro s j h hlt
    show (mark (s.setIfInBounds i true) l).getD j false = true
    rcases List.mem_cons.1 h with h' | h'
    · subst h'
      have : ∀ (l : List Nat) (t : Array Bool), t.getD j false = true → (mark t l).getD j false = true := by
        intro l
        induction l with
        | nil => intro t ht; exact ht
        | cons k l ih2 => intro t ht; exact ih2 _ (getD_set_true ht)
      exact this l _ (by simp [hlt])
    · exact ih _ j h' (by simpa using hlt)

theorem mark_ge (l : List Nat) : ∀ (s : Array Bool) (j : Nat), s.getD j false = true → (mark s l).getD j false = true := by
  induction l with
  | nil => intro s j h; exact h
  | cons i l ih => intro s j h; exact ih _ j (getD_set_true h)

theorem wpAny_block {w : World} {l : List Nat} {K : Act → Prop} {listed : Array Bool} (hsz : listed.size = ops.size)
    (hc : chainOk ops l listed = true) (hb : blockOk ops l listed = true) (m0 : Nat)
    (hK : ∀ a, K a → ∀ m, m0 ≤ m → wpAny P .any ops Q m (mark listed l) a w) :
    ∀ (f : Nat) (s : Array Bool) (a : Act), s.size = listed.size → (∀ i, listed.getD i false = true → s.getD i false = true) →
      (∀ i, s.getD i false = true → (mark listed l).getD i false = true) →
      (∀ r ∈ l, s.getD r false = false → ∀ i, s.getD i false = true → (without ops r l ops.size listed).getD i false = true) →
      wpAnyB P ops w l K f s a → ∀ m, m0 ≤ m → wpAny P .any ops Q (m + f) s a w := by
  have hlt : ∀ (r : List Nat) (s : Array Bool), chainOk ops r s = true → ∀ i ∈ r, i < ops.size := by
    intro r
    induction r with
    | nil => intro s _ i h; cases h
    | cons k r ih =>
      intro s h i hi
      simp only [chainOk, Bool.and_eq_true, decide_eq_true_eq] at h
      rcases List.mem_cons.1 hi with h' | h'
      · subst h'; exact h.1.2
      · exact ih _ h.2 i h'
  have full : ∀ s : Array Bool, s.size = listed.size → (∀ i, listed.getD i false = true → s.getD i false = true) →
      (∀ i, s.getD i false = true → (mark listed l).getD i false = true) → (¬ ∃ j ∈ l, s.getD j false = false) → s = mark listed l := by
    intro s h1 h2 h3 h4
    apply ext_of_getD (by rw [mark_size]; exact h1)
    intro i
    cases hs : s.getD i false with
    | true => exact (h3 i hs).symm
    | false =>
      cases hm : (mark listed l).getD i false with
      | false => rfl
      | true =>
        rcases mark_getD l listed i hm with h | h
        · rw [h2 i h] at hs; cases hs
        · exact (h4 ⟨i, h, hs⟩).elim
  intro f
  induction f with
  | zero =>
    intro s a h1 h2 h3 h4 hB m hm
    have hnone : ¬ ∃ j ∈ l, s.getD j false = false := fun hex => by
      obtain ⟨k, hk, hkr⟩ := chain_ready (l := l) l listed s hc hsz h1 h2 hex
      exact hB.1 k hkr hk
    rw [full s h1 h2 h3 hnone]
    exact hK a hB.2 m hm
  | succ f ih =>
    intro s a h1 h2 h3 h4 hB m hm
    by_cases hex : ∃ j ∈ l, s.getD j false = false
    · obtain ⟨k, hk, hkr⟩ := chain_ready (l := l) l listed s hc hsz h1 h2 hex
      obtain ⟨r, hrl, hrs⟩ := hex
      have hb' := hb
      simp only [blockOk, List.all_eq_true] at hb'
      have spec : ∀ r ∈ l, s.getD r false = false → ∀ j ∈ Region.ready .any ops s, (without ops r l ops.size listed).getD j false = true ∨ j = r := by
        intro r hrl hrs j hj
        have h := hb' r hrl
        simp only [Bool.and_eq_true, beq_iff_eq] at h
        obtain ⟨⟨ha, hb1⟩, hc1⟩ := h
        rcases ready_le (h4 r hrl hrs) (by rw [h1]; exact (leB_spec ha).1) (by rw [h1, hsz]) hj with h' | h'
        · exact .inl h'
        · rw [hc1] at h'; exact .inr (by simpa using h')
      refine ⟨fun h0 => by (rw [h0] at hkr; cases hkr), fun j hj => ?_⟩
      have hjl : j ∈ l := by
        rcases spec r hrl hrs j hj with h | h
        · have hh := hb' r hrl
          simp only [Bool.and_eq_true, beq_iff_eq] at hh
          rcases mark_getD l listed j ((leB_spec hh.1.2).2 j h) with h' | h'
          · have := h2 j h'
            have h0 := (mem_ready.1 hj).1
            rcases Nat.lt_or_ge j s.size with hlt | hge
            · simp [hlt] at h0 this; rw [h0] at this; cases this
            · simp [Array.getElem?_eq_none hge] at this
          · exact h'
        · rw [h]; exact hrl
      refine wpOp_of_stOp (fun a' ha' => ?_) (hB.2 j hj hjl)
      refine ih (s.setIfInBounds j true) a' (by simp [h1]) (fun i hi => getD_set_true (h2 i hi)) (fun i hi => ?_) (fun r' hr' hr's i hi => ?_) ha' m hm
      · by_cases hji : j = i
        · subst hji; exact mark_mem listed j hjl (by rw [hsz]; exact hlt l listed hc j hjl)
        · rw [getD_set_ne false hji] at hi; exact h3 i hi
      · have hr's' : s.getD r' false = false := by
          cases hx : s.getD r' false with
          | false => rfl
          | true => rw [getD_set_true hx] at hr's; cases hr's
        by_cases hji : j = i
        · subst hji
          rcases spec r' hr' hr's' j hj with h | h
          · exact h
          · exfalso
            subst h
            have : j < s.size := by rw [h1, hsz]; exact hlt l listed hc j hjl
            simp [this] at hr's
        · rw [getD_set_ne false hji] at hi; exact h4 r' hr' hr's' i hi
    · have hs := full s h1 h2 h3 hex
      rw [hs]
      refine hK a (hB.1 fun j hj hjl => ?_) _ (by omega)
      have hj1 := mark_mem listed j hjl (by rw [hsz]; exact hlt l listed hc j hjl)
      rw [← hs] at hj1
      have h0 := (mem_ready.1 hj).1
      have hlt' : j < s.size := by rw [h1, hsz]; exact hlt l listed hc j hjl
      simp [hlt'] at h0 hj1; rw [h0] at hj1; cases hj1

theorem wpAny_of_plan (hs : Region.noSelect ops = true) (hQ : ∀ c a w, ¬ Q (.panic c) a w) :
    ∀ (pl : List Stp) (s : Array Bool) (a : Act) (w : World), s.size = ops.size → planOk ops pl s = true → wpPlan P ops Q pl a w →
      ∀ m, planLen pl ≤ m → wpAny P .any ops Q m s a w
  | [], s, a, w, _, hp, h => fun m _ => wpAny_done (by simpa [planOk] using hp) h m
  | .nn i :: rest, s, a, w, hsz, hp, ⟨o, v, ho, hy, h⟩ => fun m hm => by
    simp only [planOk, Bool.and_eq_true] at hp
    simp only [planLen] at hm
    obtain ⟨m, rfl⟩ : ∃ k, m = k + 1 := ⟨m - 1, by omega⟩
    exact wpAny_take ho hs hp.1.2 hp.1.1 (fun c a w h => (hQ c _ w h).elim) hy
      (wpAny_of_plan hs hQ rest _ _ w (by simp [hsz]) hp.2 h m (by omega))
  | .rr l :: rest, s, a, w, hsz, hp, h => fun m hm => by
    simp only [planOk, Bool.and_eq_true] at hp
    simp only [planLen] at hm
    obtain ⟨⟨⟨_, hc⟩, hb⟩, hrest⟩ := hp
    obtain ⟨k, rfl⟩ : ∃ k, m = k + l.length := ⟨m - l.length, by omega⟩
    refine wpAny_block (K := fun a' => wpPlan P ops Q rest a' w) hsz hc hb (planLen rest)
      (fun a' ha' m hm => wpAny_of_plan hs hQ rest _ a' w (by rw [mark_size]; exact hsz) hrest ha' m hm) l.length s a rfl (fun _ h => h)
      (fun i hi => mark_ge l s i hi) (fun r hr hrs i hi => ?_) ?_ k (by omega)
    · simp only [blockOk, List.all_eq_true] at hb
      have := hb r hr
      simp only [Bool.and_eq_true] at this
      exact (leB_spec this.1.1).2 i hi
    · exact wpAnyB_of_chain hs l s a (fun _ h => h) (fun j hj => .inl hj) hc hsz h
  | .xx i :: rest, s, a, w, hsz, hp, h => fun m hm => by
    simp only [planOk, Bool.and_eq_true, beq_iff_eq] at hp
    simp only [planLen] at hm
    obtain ⟨m, rfl⟩ : ∃ k, m = k + 1 := ⟨m - 1, by omega⟩
    refine wpAny_all hp.1 (by simp) fun j hj => ?_
    have : j = i := by simpa using hj
    subst this
    exact wpOp_mono (fun a' w' h' => wpAny_of_plan hs hQ rest _ a' w' (by simp [hsz]) hp.2 h' m (by omega)) h

/-- THE BEGINNING: a region that draws, by its plan, from the world behind the draw. -/
theorem wp_region_plan {id : Nat} {pl : List Stp} {a : Act} {w : World} (hm : P.follows .mixedOrders = true) (hQ : ∀ c a w, ¬ Q (.panic c) a w)
    (hok : (Region.noSelect ops && planOk ops pl (Array.replicate ops.size false) && decide (planLen pl ≤ ops.size)) = true)
    (h : wpPlan P ops Q pl a { w with drawn := w.drawn + 1 }) : (Code.region id ops true).wp P Q a w := by
  simp only [Bool.and_eq_true, decide_eq_true_eq] at hok
  exact wp_region_any hm (wpAny_of_plan hok.1.1 hQ pl _ a _ (by simp) hok.1.2 h ops.size hok.2)
end
end Go.Proofs.YtpbdlibgbkhlhaaGreat.SE
