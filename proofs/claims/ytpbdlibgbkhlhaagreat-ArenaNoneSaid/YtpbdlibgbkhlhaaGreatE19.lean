/- Arguments, opened: what a reading tells of the values. -/
import Derived.Test.YtpbdlibgbkhlhaaGreatE18
namespace Go.Proofs.YtpbdlibgbkhlhaaGreat.SE
open Go

theorem mapM_some {α β : Type} {f : α → Option β} : ∀ {l : List α} {r : List β}, l.mapM f = some r → ∀ x ∈ l, ∃ y, f x = some y
  | [], _, _, x, hx => by simp at hx
  | a :: l, r, h, x, hx => by
    simp only [List.mapM_cons, Option.bind_eq_bind, Option.bind_eq_some_iff] at h
    obtain ⟨y, hy, ys, hys, _⟩ := h
    rcases List.mem_cons.1 hx with rfl | hx
    · exact ⟨y, hy⟩
    · exact mapM_some hys x hx
section
variable {H : Type} {enc : TypeId × Value → H} {P : Program} {w : World} {base : Nat} {spare : Nat → Bool} {held : Bool} {fuel : Nat} {t : TypeId} {cs : List Value} {x : DataW H × List MemPlace}
theorem trod_struct {fs : Array Field} (ht : P.underlying t = some (.struct fs)) (h : DataW.trod enc P w base spare held fuel t cs = some x) :
    cs.length = P.cellsOf t ∧ ∀ f ∈ fs.toList, ∃ fuel' y, DataW.trod enc P w base spare held fuel' f.type ((cs.drop f.offset).take (P.cellsOf f.type)) = some y := by
  cases fuel with
  | zero => simp [DataW.trod] at h
  | succ fuel =>
    unfold DataW.trod at h
    simp only [ht] at h
    split at h
    · rename_i hl
      simp only [Option.map_eq_some_iff] at h
      obtain ⟨xs, hxs, _⟩ := h
      exact ⟨hl, fun f hf => ⟨fuel, mapM_some hxs f hf⟩⟩
    · cases h
theorem trod_slice {e : TypeId} (ht : P.underlying t = some (.slice e)) (h : DataW.trod enc P w base spare held fuel t cs = some x) :
    cs = [.slice none 0 0] ∨ ∃ a len cap, cs = [.slice (some a) len cap] ∧ len ≤ cap ∧ cap ≤ maxLen ∧
      ∀ i, i < len → ∃ cs' fuel' y, w.cells? base (a.add (i * P.cellsOf e)) (P.cellsOf e) = some cs' ∧ DataW.trod enc P w base spare held fuel' e cs' = some y := by
  cases fuel with
  | zero => simp [DataW.trod] at h
  | succ fuel =>
    unfold DataW.trod at h
    simp only [ht] at h
    split at h <;> try (rename_i hh; cases hh)
    all_goals try (exact .inl rfl)
    all_goals try (cases h; done)
    all_goals
      rename_i a len cap
      split at h
      · rename_i hh
        refine .inr ⟨a, len, cap, rfl, hh.2.1, hh.2.2, fun i hi => ?_⟩
        simp only [Option.bind_eq_some_iff] at h
        obtain ⟨elems, he, _⟩ := h
        obtain ⟨y, hy⟩ := mapM_some he i (List.mem_range.2 hi)
        simp only [Option.bind_eq_some_iff] at hy
        obtain ⟨cs', h1, h2⟩ := hy
        exact ⟨cs', fuel, y, h1, h2⟩
      · cases h

theorem cells_get {a : Addr} {n : Nat} {l : List Value} (h : w.cells? base a n = some l) : l.length = n ∧ ∀ i, i < n → ∃ v, l[i]? = some v ∧ w.cell? (a.add i) = some v := by
  unfold World.cells? at h
  split at h
  · have key : ∀ (xs : List Nat) (l : List Value), xs.mapM (fun i => w.cell? (a.add i)) = some l → l.length = xs.length ∧ ∀ (k i : Nat), xs[k]? = some i → ∃ v : Value, l[k]? = some v ∧ w.cell? (a.add i) = some v := by
      intro xs
      induction xs with
      | nil => intro l hl; simp at hl; subst hl; simp
      | cons x xs ih =>
        intro l hl
        simp only [List.mapM_cons, Option.bind_eq_bind, Option.bind_eq_some_iff] at hl
        obtain ⟨y, hy, ys, hys, hl⟩ := hl
        simp only [Option.pure_def, Option.some.injEq] at hl
        subst hl
        obtain ⟨h1, h2⟩ := ih ys hys
        refine ⟨by simp [h1], fun k i hk => ?_⟩
        cases k with
        | zero => simp at hk; subst hk; exact ⟨y, by simp, hy⟩
        | succ k => simpa using h2 k i (by simpa using hk)
    obtain ⟨h1, h2⟩ := key _ _ h
    exact ⟨by simpa using h1, fun i hi => h2 i i (by simp [hi])⟩
  · cases h
end

/-! ### A slice that comes in -/
theorem cell_add {w : World} {b off n : Nat} {v : Value} (h : w.cell? ((⟨b, off, none⟩ : Addr).add n) = some v) : ∃ arr e f, w.heap[b]? = some (.cells arr e f) ∧ arr[off + n]? = some v := by
  have hb : ((⟨b, off, none⟩ : Addr).add n) = ⟨b, off + n, none⟩ := by
    unfold Addr.add; split
    · rename_i h0; subst h0; rfl
    · rfl
  rw [hb] at h
  unfold World.cell? at h
  split at h
  · rename_i c e f hc
    exact ⟨c, e, f, hc, by simpa using h⟩
  · cases h

/-- Nothing is told of it. -/
def topOwn : Own where
  holds _ _ _ := True
  stays _ _ _ _ _ _ := trivial
/-- A row that came in, or none at all. -/
def argO {α : Type} (f : α → List Value) : Option (List α) → AObj
  | none => .abs topOwn
  | some l => .ro (.raw (flat f l))
def argV {α : Type} (i : Nat) (cap : Nat) : Option (List α) → AV
  | none => .lit (.slice none 0 0)
  | some l => .sl i 0 l.length cap
theorem omap_arg {α : Type} (τ : Nat → Nat) (f : α → List Value) (x : Option (List α)) : omap τ (argO f x) = argO f x := by cases x <;> rfl
theorem obelow_arg {α : Type} (n : Nat) (f : α → List Value) (x : Option (List α)) : obelow n (argO f x) = true := by cases x <;> rfl
theorem soft_arg {α : Type} (τ : Nat → Nat) (n : Nat) (f : α → List Value) (x : Option (List α)) : Soft τ n (argO f x) (argO f x) := by
  have := soft_map (τ := τ) (n := n) (obelow_arg n f x)
  rwa [omap_arg] at this
theorem rawAt_arg {α : Type} {f : α → List Value} {h : Heap} {i : Nat} {l : List α} (hi : h.get i = some (argO f (some l))) : RawAt h i (flat f l) := ⟨_, hi, rfl⟩

theorem flat_some {α : Type} {f : α → List Value} {m : Nat} (hf : ∀ a, (f a).length = m) (hm : 0 < m) {l : List α} {k : Nat} {v : Value} (h : (flat f l)[k]? = some v) :
    ∃ a, l[k / m]? = some a ∧ (f a)[k % m]? = some v := by
  have hk : k < l.length * m := by rw [← flat_length hf]; exact (List.getElem?_eq_some_iff.1 h).1
  have hlt : k / m < l.length := Nat.div_lt_of_lt_mul (by rw [Nat.mul_comm]; exact hk)
  refine ⟨l[k / m], List.getElem?_eq_getElem hlt, ?_⟩
  rw [← flat_get hf l (k / m) (k % m) _ (List.getElem?_eq_getElem hlt) (Nat.mod_lt _ hm), Nat.div_add_mod']
  exact h
theorem rows_choose {α : Type} {p : Nat → α → Prop} : ∀ (n : Nat), (∀ i, i < n → ∃ a, p i a) → ∃ l : List α, l.length = n ∧ ∀ i a, l[i]? = some a → p i a
  | 0, _ => ⟨[], rfl, fun i a h => by simp at h⟩
  | n + 1, h => by
    obtain ⟨l, h1, h2⟩ := rows_choose n (fun i hi => h i (by omega))
    obtain ⟨a, ha⟩ := h n (by omega)
    refine ⟨l ++ [a], by simp [h1], fun i b hb => ?_⟩
    by_cases hi : i < l.length
    · rw [List.getElem?_append_left hi] at hb; exact h2 i b hb
    · rw [List.getElem?_append_right (by omega)] at hb
      have : i = l.length := by
        have := (List.getElem?_eq_some_iff.1 hb).1
        simp at this; omega
      subst this
      simp at hb; subst hb; rw [h1]; exact ha

/-- A slice that came in: what is in it, and the object that stands for it. -/
theorem open_rows {H : Type} {enc : TypeId × Value → H} {P : Program} {W : World} {T : Nat → Prop} {t e : TypeId} {v : Value} {d : DataW H} {ps : List MemPlace} {α : Type} {f : α → List Value} {m : Nat} (ok : α → Prop) (hf : ∀ a, (f a).length = m) (hm : 0 < m)
    (ht : P.underlying t = some (.slice e)) (hc : P.cellsOf e = m) (hok : Value.okWide P W .any 0 t v) (h : DataW.Trod enc P W 0 (fun _ => true) true t v d ps) (hT : ∀ b, b < W.heap.size → ¬ T b)
    (hel : ∀ fuel cs y, DataW.trod enc P W 0 (fun _ => true) true fuel e cs = some y → ∃ a, ok a ∧ cs = f a) :
    ∃ (x : Option (List α)) (cap : Nat) (a : Loc), (∀ l, x = some l → (∀ y ∈ l, ok y) ∧ l.length ≤ cap ∧ cap ≤ maxLen) ∧ (∀ (ρ : Ren) (i : Nat), ρ i = some a → VRel ρ (argV i cap x) v) ∧ ∀ (ρ : Ren) (S : Nat → Prop), OHolds ρ W T a S (argO f x) := by
  obtain ⟨fuel, h⟩ := h
  have hok' : Cell.okWide P W .any 0 t v := by unfold Value.okWide at hok; simpa only [ht] using hok
  have hv : v.cells.toList = [v] ∧ (v = .slice none 0 0 ∨ ∃ a n c, v = .slice (some a) n c ∧ W.has P .any 0 a e c) := by
    unfold Cell.okWide at hok'
    simp only [ht] at hok'
    unfold Cell.ok at hok'
    simp only [ht] at hok'
    split at hok' <;> first | exact hok'.elim | (rename_i hh; cases hh; done) | skip
    · exact ⟨rfl, .inl rfl⟩
    · rename_i a n c hh
      cases hh
      exact ⟨rfl, .inr ⟨a, n, c, rfl, hok'.2.2⟩⟩
  rw [hv.1] at h
  rcases trod_slice ht h with h1 | ⟨a, len, cap, h1, h2, h3, h4⟩
  · simp only [List.cons.injEq, and_true] at h1
    subst h1
    exact ⟨none, 0, ⟨0, 0, 0⟩, (fun l hl => by cases hl), (fun ρ i _ => by simp [argV, VRel]), fun _ _ => trivial⟩
  · simp only [List.cons.injEq, and_true] at h1
    subst h1
    rcases hv.2 with h | ⟨a', n', c', he, hhas⟩
    · cases h
    cases he
    obtain ⟨b, off, spot⟩ := a
    obtain ⟨_, hs, row, cells, hsh, _⟩ := hhas
    simp only at hs
    subst hs
    obtain ⟨arr, e0, fz, harr⟩ : ∃ arr e0 fz, W.heap[b]? = some (.cells arr e0 fz) := by
      unfold World.shape? at hsh
      split at hsh
      · rename_i c el fr hc; exact ⟨c, el, fr, hc⟩
      · cases hsh
    obtain ⟨l, hl, hl'⟩ := rows_choose (p := fun i (y : α) => ok y ∧ ∀ j u, (f y)[j]? = some u → arr[off + (i * m + j)]? = some u) len (fun i hi => by
      obtain ⟨cs', fuel', y, hc1, hc2⟩ := h4 i hi
      obtain ⟨z, hz, rfl⟩ := hel fuel' cs' y hc2
      refine ⟨z, hz, fun j u hu => ?_⟩
      rw [hc] at hc1
      obtain ⟨g1, g2⟩ := cells_get hc1
      have hj : j < m := by rw [← g1]; exact (List.getElem?_eq_some_iff.1 hu).1
      obtain ⟨u', hu', hcell⟩ := g2 j hj
      rw [hu] at hu'; cases hu'
      have hadd : ((⟨b, off, none⟩ : Addr).add (i * m)).add j = (⟨b, off, none⟩ : Addr).add (i * m + j) := by
        unfold Addr.add
        by_cases h0 : i * m = 0 <;> by_cases h1 : j = 0 <;> simp [h0, h1] <;> omega
      rw [hadd] at hcell
      obtain ⟨arr', e', f', h5, h6⟩ := cell_add hcell
      rw [harr] at h5; cases h5
      exact h6)
    refine ⟨some l, cap, ⟨b, off, 0⟩, fun l' he => ?_, fun ρ i hi => ?_, fun ρ S => ?_⟩
    · cases he
      refine ⟨fun y hy => ?_, by rw [hl]; exact h2, h3⟩
      obtain ⟨k, hk, rfl⟩ := List.getElem_of_mem hy
      exact (hl' k _ (List.getElem?_eq_getElem hk)).1
    · exact ⟨_, hi, by simp [hl]⟩
    · refine .inr ⟨hT b (Array.getElem?_eq_some_iff.1 harr).1, arr, e0, fz, harr, fun k u hu => ?_⟩
      simp only [Cs.get] at hu
      cases hu2 : (flat f l)[k]? with
      | none => rw [hu2] at hu; cases hu
      | some u2 =>
        rw [hu2] at hu; simp at hu; subst hu
        obtain ⟨z, hz1, hz2⟩ := flat_some hf hm hu2
        refine ⟨u2, ?_, by simp [VRel]⟩
        have := (hl' _ _ hz1).2 _ _ hz2
        rw [← this, Nat.div_add_mod']
end Go.Proofs.YtpbdlibgbkhlhaaGreat.SE
