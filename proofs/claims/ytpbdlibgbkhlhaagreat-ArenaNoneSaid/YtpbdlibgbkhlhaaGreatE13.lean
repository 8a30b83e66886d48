/- Steps by hand, many steps at once; rows of elements. -/
import Derived.Test.YtpbdlibgbkhlhaaGreatE12
namespace Go.Proofs.YtpbdlibgbkhlhaaGreat.SE
open Go

section
variable {P : Program} {tt : TT} {k n : Nat} {ops : Array Oper} {Q : Fr → Heap → Prop} {fr : Fr} {h : Heap}
theorem rplan_rr_cons (hT : tt.ok P) {i : Nat} {l : List Nat} {rest : List Stp} {fr' : Fr} (hs : stepR tt n ops i fr h = some fr') (hn : RPlan P k n ops (.rr l :: rest) Q fr' h) : RPlan P k n ops (.rr (i :: l) :: rest) Q fr h := by
  intro ρ T w a hst
  obtain ⟨o, u, ho, hy, hf⟩ := stepR_ok (P := P) hT hst hs
  exact ⟨o, u, ho, hy, hn ρ T w _ ⟨hst.le, hst.rel, hf⟩⟩
theorem rplan_rr_nil {rest : List Stp} (hn : RPlan P k n ops rest Q fr h) : RPlan P k n ops (.rr [] :: rest) Q fr h := hn

/-- So many steps. -/
def runK (u : Bool) (tt : TT) (n : Nat) (ops : Array Oper) : Nat → List Stp → Fr → Heap → Option (List Stp × Fr × Heap)
  | 0, pl, fr, h => some (pl, fr, h)
  | k + 1, .nn i :: r, fr, h => match stepN tt n ops i fr with
    | some fr' => runK u tt n ops k r fr' h
    | none => none
  | k + 1, .rr [] :: r, fr, h => runK u tt n ops k r fr h
  | k + 1, .rr (i :: l) :: r, fr, h => match stepR tt n ops i fr h with
    | some fr' => runK u tt n ops k (.rr l :: r) fr' h
    | none => none
  | k + 1, .xx i :: r, fr, h => match stepX u tt n ops i fr h with
    | some (fr', h') => runK u tt n ops k r fr' h'
    | none => none
  | _ + 1, [], _, _ => none
theorem rplan_k (hT : tt.ok P) (u : Bool) : ∀ (m : Nat) {pl pl' : List Stp} {fr fr' : Fr} {h h' : Heap}, runK u tt n ops m pl fr h = some (pl', fr', h') → RPlan P k n ops pl' Q fr' h' → RPlan P k n ops pl Q fr h
  | 0, pl, pl', fr, fr', h, h', hr, hn => by simp only [runK, Option.some.injEq, Prod.mk.injEq] at hr; obtain ⟨rfl, rfl, rfl⟩ := hr; exact hn
  | m + 1, [], pl', fr, fr', h, h', hr, hn => by simp only [runK] at hr; cases hr
  | m + 1, .nn i :: r, pl', fr, fr', h, h', hr, hn => by
    simp only [runK] at hr
    split at hr
    · rename_i f2 h2; exact rplan_nn hT h2 (rplan_k hT u m hr hn)
    · cases hr
  | m + 1, .rr [] :: r, pl', fr, fr', h, h', hr, hn => by
    simp only [runK] at hr
    exact rplan_rr_nil (rplan_k hT u m hr hn)
  | m + 1, .rr (i :: l) :: r, pl', fr, fr', h, h', hr, hn => by
    simp only [runK] at hr
    split at hr
    · rename_i f2 h2; exact rplan_rr_cons hT h2 (rplan_k hT u m hr hn)
    · cases hr
  | m + 1, .xx i :: r, pl', fr, fr', h, h', hr, hn => by
    simp only [runK] at hr
    split at hr
    · rename_i f2 g2 h2; exact rplan_xx hT u h2 (rplan_k hT u m hr hn)
    · cases hr

theorem stepN_of {i : Nat} {o : Oper} {v : AV} (ho : ops[i]? = some o) (hd : dstOk n o.dst = true) (hw : wantedA ops o fr = some true) (hv : opN tt o.op (evA fr) = some v) : stepN tt n ops i fr = some (putF fr o.dst v) := by
  simp [stepN, ho, hd, hw, hv]
theorem stepR_of {i : Nat} {o : Oper} {v : AV} (ho : ops[i]? = some o) (hd : dstOk n o.dst = true) (hw : wantedA ops o fr = some true) (hv : opN tt o.op (evA fr) = some v) : stepR tt n ops i fr h = some (putF fr o.dst v) := by
  simp [stepR, ho, hd, hw, hv]
theorem stepR_load {i : Nat} {o : Oper} {v : AV} (ho : ops[i]? = some o) (hd : dstOk n o.dst = true) (hw : wantedA ops o fr = some true) (hN : opN tt o.op (evA fr) = none) (hv : opR tt o.op (evA fr) h = some v) : stepR tt n ops i fr h = some (putF fr o.dst v) := by
  simp [stepR, ho, hd, hw, hN, hv]
theorem stepX_of (u : Bool) {i : Nat} {fr' : Fr} (hr : stepR tt n ops i fr h = some fr') : stepX u tt n ops i fr h = some (fr', h) := by
  simp [stepX, hr]
theorem stepX_act (u : Bool) {i : Nat} {o : Oper} {v : AV} {h' : Heap} (ho : ops[i]? = some o) (hd : dstOk n o.dst = true) (hw : wantedA ops o fr = some true) (hN : opN tt o.op (evA fr) = none) (hR : opR tt o.op (evA fr) h = none)
    (hv : opX u tt o.op (evA fr) h = some (v, h')) : stepX u tt n ops i fr h = some (putF fr o.dst v, h') := by
  simp [stepX, stepR, ho, hd, hw, hN, hR, hv]
end

/-! ### Rows of elements, each of m cells -/
def flat {α : Type} (f : α → List Value) (l : List α) : List Value := l.flatMap f
section
variable {α : Type} {f : α → List Value} {m : Nat} (hf : ∀ a, (f a).length = m)
theorem flat_nil : flat f [] = [] := rfl
theorem flat_append (l r : List α) : flat f (l ++ r) = flat f l ++ flat f r := by simp [flat]
theorem flat_one (a : α) : flat f [a] = f a := by simp [flat]
include hf
theorem flat_length (l : List α) : (flat f l).length = l.length * m := by
  induction l with
  | nil => simp [flat]
  | cons a l ih =>
    have : flat f (a :: l) = f a ++ flat f l := rfl
    rw [this, List.length_append, ih, hf, List.length_cons, Nat.add_mul]; omega
theorem flat_drop : ∀ (l : List α) (i : Nat), (flat f l).drop (i * m) = flat f (l.drop i)
  | l, 0 => by simp
  | [], i + 1 => by simp [flat]
  | a :: l, i + 1 => by
    have : flat f (a :: l) = f a ++ flat f l := rfl
    rw [this, List.drop_append, hf, List.drop_eq_nil_of_le (by rw [hf, Nat.add_mul]; omega), List.nil_append, List.drop_succ_cons]
    rw [show (i + 1) * m - m = i * m by rw [Nat.add_mul]; omega]
    exact flat_drop l i
theorem flat_take : ∀ (l : List α) (i : Nat), (flat f l).take (i * m) = flat f (l.take i)
  | l, 0 => by simp [flat]
  | [], i + 1 => by simp [flat]
  | a :: l, i + 1 => by
    have : flat f (a :: l) = f a ++ flat f l := rfl
    rw [this, List.take_append, hf, List.take_succ_cons]
    have h2 : flat f (a :: l.take i) = f a ++ flat f (l.take i) := rfl
    rw [h2, List.take_of_length_le (by rw [hf, Nat.add_mul]; omega)]
    rw [show (i + 1) * m - m = i * m by rw [Nat.add_mul]; omega]
    rw [flat_take l i]
theorem flat_get (l : List α) (i j : Nat) (a : α) (hi : l[i]? = some a) (hj : j < m) : (flat f l)[i * m + j]? = (f a)[j]? := by
  have h1 : (flat f l)[i * m + j]? = ((flat f l).drop (i * m))[j]? := by rw [List.getElem?_drop]
  rw [h1, flat_drop hf]
  have h2 : l.drop i = a :: l.drop (i + 1) := by
    obtain ⟨hlt, ha⟩ := List.getElem?_eq_some_iff.1 hi
    rw [← ha]; exact List.drop_eq_getElem_cons hlt
  rw [h2]
  have h3 : flat f (a :: l.drop (i + 1)) = f a ++ flat f (l.drop (i + 1)) := rfl
  rw [h3, List.getElem?_append_left (by rw [hf]; exact hj)]
theorem flat_set (l : List α) (i : Nat) (a : α) (hi : i < l.length) : Cs.spliceV (i * m) (f a) (flat f l) = flat f (l.set i a) := by
  unfold Cs.spliceV
  rw [flat_take hf, hf, show i * m + m = (i + 1) * m by rw [Nat.add_mul]; omega, flat_drop hf, ← flat_one (f := f) a, ← flat_append, ← flat_append]
  congr 1
  apply List.ext_getElem?
  intro k
  simp only [List.getElem?_append, List.length_append, List.length_take, List.length_singleton, List.getElem?_set]
  rw [Nat.min_eq_left (by omega)]
  by_cases h1 : k < i
  · rw [if_pos (by omega), if_pos h1, List.getElem?_take, if_pos h1, if_neg (by omega)]
  · by_cases h2 : k = i
    · subst h2; rw [if_pos (by omega), if_neg h1]; simp [hi]
    · rw [if_neg (by omega), List.getElem?_drop, if_neg (by omega)]
      congr 1; omega
end

/-- The contents of an object are a row of plain values. -/
def RawAt (h : Heap) (i : Nat) (L : List Value) : Prop := ∃ ob, h.get i = some ob ∧ ob.conts = some (.raw L)

theorem getN_raw {h : Heap} {i : Nat} {L : List Value} (hr : RawAt h i L) : ∀ (m o : Nat) (vs : List Value), vs.length = m → (∀ j, j < m → L[o + j]? = vs[j]?) → getN h i o m = some (vs.map .lit)
  | 0, o, vs, hl, _ => by simp at hl; subst hl; rfl
  | m + 1, o, [], hl, _ => by simp at hl
  | m + 1, o, v :: vs, hl, hj => by
    have h0 := hj 0 (by omega)
    simp only [Nat.add_zero, List.getElem?_cons_zero] at h0
    have hc : cellAt h i o = some (.lit v) := by
      obtain ⟨ob, h1, h2⟩ := hr
      simp [cellAt, h1, h2, Cs.get, h0]
    have ih := getN_raw hr m (o + 1) vs (by simpa using hl) (fun j hjm => by
      have := hj (j + 1) (by omega)
      rw [List.getElem?_cons_succ] at this
      rw [← this]; congr 1; omega)
    simp [getN, hc, ih]

/-- An element of a row, loaded. -/
theorem load_elem {tt : TT} {t : TypeId} {ti : TI} {h : Heap} {i k : Nat} {α : Type} {f : α → List Value} {l : List α} {a : α} (hti : tt t = some ti) (hagg : ti.agg = true) (hf : ∀ a, (f a).length = ti.size)
    (hr : RawAt h i (flat f l)) (hk : l[k]? = some a) : loadA tt t (.ptr i (k * ti.size)) h = some (.agg ((f a).map .lit)) := by
  have := getN_raw hr ti.size (k * ti.size) (f a) (hf a) (fun j hj => flat_get hf l k j a hk hj)
  simp [loadA, hti, hagg, this]
theorem load_elem1 {tt : TT} {t : TypeId} {ti : TI} {h : Heap} {i k : Nat} {l : List Value} {a : Value} (hti : tt t = some ti) (hagg : ti.agg = false)
    (hr : RawAt h i l) (hk : l[k]? = some a) : loadA tt t (.ptr i k) h = some (.lit a) := by
  obtain ⟨ob, h1, h2⟩ := hr
  simp [loadA, hti, hagg, cellAt, h1, h2, Cs.get, hk]

/-- An element of a row, stored. -/
def rawSet (x : AObj) (L : List Value) : AObj := match x with
  | .cells e _ => .cells e (.raw L)
  | .room e _ => .room e (.raw L)
  | x => x
def isOwnRow : AObj → Bool
  | .cells .. => true
  | .room .. => true
  | _ => false
theorem setN_raw {i : Nat} : ∀ (vs : List Value) (o : Nat) (h : Heap) (x : AObj) (L : List Value), h.get i = some x → isOwnRow x = true → x.conts = some (.raw L) → (∀ v ∈ vs, v.oneCell' = true) → o + vs.length ≤ L.length →
    ∃ h', setN h i o (vs.map .lit) = some h' ∧ h'.next = h.next ∧ ∀ j, h'.get j = if j = i then some (rawSet x (Cs.spliceV o vs L)) else h.get j
  | [], o, h, x, L, hx, hrow, hc, _, _ => by
    refine ⟨h, rfl, rfl, fun j => ?_⟩
    by_cases hj : j = i
    · subst hj
      rw [if_pos rfl, hx]
      have : Cs.spliceV o [] L = L := by simp [Cs.spliceV]
      rw [this]
      cases x <;> simp [isOwnRow] at hrow <;> simp [AObj.conts] at hc <;> simp [rawSet, hc]
    · rw [if_neg hj]
  | v :: vs, o, h, x, L, hx, hrow, hc, h1, hl => by
    simp only [List.length_cons] at hl
    have hset : setCell h i o (.lit v) = some (h.set i (rawSet x (L.set o v))) := by
      have hb : Nat.blt o L.length = true := nblt_iff.2 (by omega)
      cases x <;> simp [isOwnRow] at hrow <;> simp [AObj.conts] at hc <;> subst hc <;> simp [setCell, hx, Cs.set, hb, rawSet]
    obtain ⟨h', hh', hn, hg⟩ := setN_raw vs (o + 1) (h.set i (rawSet x (L.set o v))) (rawSet x (L.set o v)) (L.set o v) (by rw [Heap.get_set, if_pos rfl]) (by cases x <;> simp [isOwnRow] at hrow <;> rfl)
      (by cases x <;> simp [isOwnRow] at hrow <;> rfl) (fun u hu => h1 u (by simp [hu])) (by simp; omega)
    refine ⟨h', ?_, by rw [hn]; simp, fun j => ?_⟩
    · have : oneCell (.lit v) = true := h1 v (by simp)
      simp [setN, this, hset, hh']
    · rw [hg j]
      by_cases hj : j = i
      · rw [if_pos hj, if_pos hj]
        congr 1
        have e1 : rawSet (rawSet x (L.set o v)) (Cs.spliceV (o + 1) vs (L.set o v)) = rawSet x (Cs.spliceV (o + 1) vs (L.set o v)) := by cases x <;> rfl
        rw [e1]
        congr 1
        unfold Cs.spliceV
        apply List.ext_getElem?
        intro q
        have hlen : (L.set o v).length = L.length := by simp
        rw [Cs.splice_get (o + 1) vs (L.set o v) (by rw [hlen]; omega) q, Cs.splice_get o (v :: vs) L (by simp; omega) q]
        simp only [List.length_cons, List.getElem?_set]
        by_cases hq : q = o
        · subst hq; rw [if_neg (by omega), if_pos rfl, if_pos (by omega), if_pos (by omega)]; simp
        · by_cases hq2 : o ≤ q ∧ q < o + (vs.length + 1)
          · rw [if_pos (by omega), if_pos hq2]
            rw [show q - o = (q - (o + 1)) + 1 by omega]; simp
          · rw [if_neg (by omega), if_neg hq2, if_neg (by omega)]
      · rw [if_neg hj, if_neg hj, Heap.get_set, if_neg hj]
end Go.Proofs.YtpbdlibgbkhlhaaGreat.SE
