/- Segments of memory: append, copy, make, literals of slices. -/
import Derived.Test.YtpbdlibgbkhlhaaGreatE6
namespace Go.Proofs.YtpbdlibgbkhlhaaGreat.SE
open Go

/-! ### Segments of contents -/
def litsOf : List AV → Option (List Value)
  | [] => some []
  | .lit v :: r => match litsOf r with
    | some l => some (v :: l)
    | none => none
  | _ :: _ => none
theorem litsOf_spec : ∀ {l : List AV} {m : List Value}, litsOf l = some m → l = m.map .lit
  | [], m, h => by simp [litsOf] at h; simp [← h]
  | a :: r, m, h => by
    cases a with
    | lit v =>
      simp only [litsOf] at h
      split at h
      · rename_i l hl; cases h; simp [litsOf_spec hl]
      · cases h
    | _ => simp [litsOf] at h

namespace Cs
def toL : Cs → List AV
  | .av l => l
  | .raw l => l.map .lit
  | .tr n z t => (List.range n).map fun k => ((Cs.tr n z t).get k).getD .any
  | .row m n g wr => (List.range (n * m)).map fun k => ((Cs.row m n g wr).get k).getD .any

/-- The segment of m cells from o on. -/
def sub (c : Cs) (o m : Nat) : Option Cs := match c with
  | .av l => bif Nat.ble (o + m) l.length then some (.av ((l.drop o).take m)) else none
  | .raw l => bif Nat.ble (o + m) l.length then some (.raw ((l.drop o).take m)) else none
  | .tr n z t => bif Nat.ble (o + m) n && !Nat.beq z.length 0 then some (.av ((List.range m).map fun k => ((Cs.tr n z t).get (o + k)).getD .any)) else none
  | .row .. => none

/-- Two segments, one behind the other. -/
def app (c d : Cs) : Option Cs := match c, d with
  | .av l, .av m => some (.av (l ++ m))
  | .raw l, .raw m => some (.raw (l ++ m))
  | .raw l, .av m => match litsOf m with
    | some m => some (.raw (l ++ m))
    | none => match l with
      | [] => some (.av m)
      | _ => none
  | .av l, .raw m => match l with
    | [] => some (.raw m)
    | l => some (.av (l ++ m.map .lit))
  | _, _ => none

def spliceV (off : Nat) (cs l : List Value) : List Value := l.take off ++ cs ++ l.drop (off + cs.length)
/-- A segment laid over contents, from o on. -/
def putAt : List AV → Nat → PM AV → PM AV
  | [], _, t => t
  | v :: r, k, t => putAt r (k + 1) (t.set k (some v))
def put (c : Cs) (o : Nat) (d : Cs) : Option Cs := bif Nat.ble (o + d.size) c.size then (match c, d with
  | .av l, .av m => some (.av (splice o m l))
  | .av l, .raw m => some (.av (splice o (m.map .lit) l))
  | .raw l, .raw m => some (.raw (spliceV o m l))
  | .raw l, .av m => match litsOf m with
    | some m => some (.raw (spliceV o m l))
    | none => none
  | .tr n z t, .av m => some (.tr n z (putAt m o t))
  | .tr n z t, .raw m => some (.tr n z (putAt (m.map .lit) o t))
  | _, _ => none) else none

/-- d is m cells of c from o on. -/
def Seg (c : Cs) (o m : Nat) (d : Cs) : Prop := d.size = m ∧ ∀ k, k < m → d.get k = c.get (o + k) ∧ ∃ v, c.get (o + k) = some v

theorem getElem?_dt {α : Type} (l : List α) (o m k : Nat) : ((l.drop o).take m)[k]? = if k < m then l[o + k]? else none := by
  rw [List.getElem?_take, List.getElem?_drop]

theorem sub_spec {c d : Cs} {o m : Nat} (h : c.sub o m = some d) : o + m ≤ c.size ∧ Seg c o m d := by
  cases c with
  | av l =>
    simp only [sub] at h
    cases hb : Nat.ble (o + m) l.length with
    | false => rw [hb] at h; simp at h
    | true =>
      rw [hb] at h; simp at h; subst h
      have hb' : o + m ≤ l.length := by simpa using hb
      refine ⟨hb', by simp [size]; omega, fun k hk => ?_⟩
      have hlt : o + k < l.length := by omega
      simp only [get, getElem?_dt, if_pos hk]
      exact ⟨trivial, l[o + k], List.getElem?_eq_getElem hlt⟩
  | raw l =>
    simp only [sub] at h
    cases hb : Nat.ble (o + m) l.length with
    | false => rw [hb] at h; simp at h
    | true =>
      rw [hb] at h; simp at h; subst h
      have hb' : o + m ≤ l.length := by simpa using hb
      refine ⟨hb', by simp [size]; omega, fun k hk => ?_⟩
      have hlt : o + k < l.length := by omega
      simp only [get, getElem?_dt, if_pos hk]
      exact ⟨trivial, .lit l[o + k], by rw [List.getElem?_eq_getElem hlt]⟩
  | tr n z t =>
    simp only [sub] at h
    cases hb : (Nat.ble (o + m) n && !Nat.beq z.length 0) with
    | false => rw [hb] at h; simp at h
    | true =>
      rw [hb] at h; simp only [cond_true, Option.some.injEq] at h; subst h
      simp only [Bool.and_eq_true, Nat.ble_eq, Bool.not_eq_true'] at hb
      have hz : z.length ≠ 0 := fun h0 => by rw [h0] at hb; cases hb.2
      refine ⟨hb.1, by simp [size], fun k hk => ?_⟩
      have hlt : Nat.blt (o + k) n = true := nblt_iff.2 (by omega)
      have hex : ∃ v, (Cs.tr n z t).get (o + k) = some v := by
        simp only [get, hlt, cond_true]
        cases t.get (o + k) with
        | some v => exact ⟨v, rfl⟩
        | none =>
          have : (o + k) % z.length < z.length := Nat.mod_lt _ (by omega)
          exact ⟨z[(o + k) % z.length], by simp [this]⟩
      refine ⟨?_, hex⟩
      obtain ⟨v, hv⟩ := hex
      show (List.map _ (List.range m))[k]? = _
      simp [hk, hv]
  | row m' n g wr => simp [sub] at h

theorem app_spec {c d e : Cs} (h : c.app d = some e) : e.size = c.size + d.size ∧ (∀ k, k < c.size → e.get k = c.get k) ∧ ∀ k, e.get (c.size + k) = d.get k := by
  have key1 : ∀ (l m : List AV) (k : Nat), k < l.length → (l ++ m)[k]? = l[k]? := fun l m k hk => by rw [List.getElem?_append_left hk]
  have key2 : ∀ (l m : List AV) (k : Nat), (l ++ m)[l.length + k]? = m[k]? := fun l m k => by rw [List.getElem?_append_right (by omega)]; simp
  have rawget : ∀ (l : List Value) (k : Nat), (Cs.raw l).get k = (l.map AV.lit)[k]? := fun l k => by
    simp only [get, List.getElem?_map]; cases l[k]? <;> rfl
  cases c with
  | av l =>
    cases d with
    | av m => simp only [app, Option.some.injEq] at h; subst h; exact ⟨by simp [size], fun k hk => key1 l m k hk, fun k => key2 l m k⟩
    | raw m =>
      cases l with
      | nil =>
        simp only [app, Option.some.injEq] at h; subst h
        exact ⟨by simp [size], fun k hk => by simp [size] at hk, fun k => by simp [size]⟩
      | cons a l =>
        simp only [app, Option.some.injEq] at h; subst h
        refine ⟨by simp [size]; omega, fun k hk => key1 _ _ k hk, fun k => ?_⟩
        rw [rawget]; exact key2 _ _ k
    | tr n z t => simp [app] at h
    | row m' n g wr => simp [app] at h
  | raw l =>
    cases d with
    | av m =>
      simp only [app] at h
      split at h
      · rename_i m' hm
        cases h
        have := litsOf_spec hm; subst this
        refine ⟨by simp [size], fun k hk => ?_, fun k => ?_⟩
        · rw [rawget, rawget, List.map_append]; exact key1 _ _ k (by simpa [size] using hk)
        · rw [rawget, List.map_append]
          have := key2 (l.map AV.lit) (m'.map AV.lit) k
          simpa [size, get] using this
      · split at h
        · cases h; exact ⟨by simp [size], fun k hk => by simp [size] at hk, fun k => by simp [size]⟩
        · cases h
    | raw m =>
      simp only [app, Option.some.injEq] at h; subst h
      refine ⟨by simp [size], fun k hk => ?_, fun k => ?_⟩
      · rw [rawget, rawget, List.map_append]; exact key1 _ _ k (by simpa [size] using hk)
      · rw [rawget, rawget, List.map_append]
        have := key2 (l.map AV.lit) (m.map AV.lit) k
        simpa [size] using this
    | tr n z t => simp [app] at h
    | row m' n g wr => simp [app] at h
  | tr n z t => simp [app] at h
  | row m' n g wr => simp [app] at h

theorem putAt_get : ∀ (m : List AV) (o : Nat) (t : PM AV) (k : Nat), (putAt m o t).get k = if o ≤ k ∧ k < o + m.length then m[k - o]? else t.get k
  | [], o, t, k => by simp [putAt]; intro h1 h2; omega
  | v :: r, o, t, k => by
    simp only [putAt]
    rw [putAt_get r (o + 1) _ k, PM.get_set]
    simp only [List.length_cons]
    by_cases h1 : o = k
    · subst h1; rw [if_neg (by omega), if_pos rfl, if_pos (by omega)]; simp
    · by_cases h2 : o ≤ k ∧ k < o + (r.length + 1)
      · rw [if_pos (by omega), if_pos h2]
        have : k - o = (k - (o + 1)) + 1 := by omega
        rw [this]; simp
      · rw [if_neg (by omega), if_neg (Ne.symm h1), if_neg h2]

theorem splice_get {α : Type} (o : Nat) (m l : List α) (h : o + m.length ≤ l.length) (k : Nat) :
    (l.take o ++ m ++ l.drop (o + m.length))[k]? = if o ≤ k ∧ k < o + m.length then m[k - o]? else l[k]? := by
  simp only [List.getElem?_append, List.length_append, List.length_take]
  rw [Nat.min_eq_left (by omega)]
  by_cases h1 : k < o
  · rw [if_pos (by omega), if_pos h1, if_neg (by omega), List.getElem?_take, if_pos h1]
  · by_cases h2 : k < o + m.length
    · rw [if_pos h2, if_neg h1, if_pos (by omega)]
    · rw [if_neg h2, if_neg (by omega), List.getElem?_drop]
      congr 1; omega

theorem put_spec {c d e : Cs} {o : Nat} (h : c.put o d = some e) : o + d.size ≤ c.size ∧ e.size = c.size ∧ ∀ k, e.get k = if o ≤ k ∧ k < o + d.size then d.get (k - o) else c.get k := by
  have rawget : ∀ (l : List Value) (k : Nat), (Cs.raw l).get k = (l.map AV.lit)[k]? := fun l k => by
    simp only [get, List.getElem?_map]; cases l[k]? <;> rfl
  unfold put at h
  cases hb : Nat.ble (o + d.size) c.size with
  | false => rw [hb] at h; simp at h
  | true =>
    rw [hb] at h; simp only [cond_true] at h
    have hb' : o + d.size ≤ c.size := by simpa using hb
    refine ⟨hb', ?_⟩
    split at h
    · rename_i l m
      cases h; simp only [size] at hb' ⊢
      exact ⟨by simp [splice]; omega, fun k => splice_get o m l hb' k⟩
    · rename_i l m
      cases h; simp only [size] at hb' ⊢
      refine ⟨by simp [splice]; omega, fun k => ?_⟩
      have := splice_get o (m.map AV.lit) l (by simpa using hb') k
      rw [rawget]
      simpa [splice, get] using this
    · rename_i l m
      cases h; simp only [size] at hb' ⊢
      refine ⟨by simp [spliceV]; omega, fun k => ?_⟩
      rw [rawget, rawget, rawget]
      have := splice_get o (m.map AV.lit) (l.map AV.lit) (by simpa using hb') k
      simpa [spliceV, List.map_append, List.map_take, List.map_drop] using this
    · rename_i l m
      split at h
      · rename_i m' hm
        cases h
        have := litsOf_spec hm; subst this
        simp only [size, List.length_map] at hb' ⊢
        refine ⟨by simp [spliceV]; omega, fun k => ?_⟩
        rw [rawget, rawget]
        have := splice_get o (m'.map AV.lit) (l.map AV.lit) (by simpa using hb') k
        simpa [get, spliceV, List.map_append, List.map_take, List.map_drop] using this
      · cases h
    · rename_i n z t m
      cases h; simp only [size] at hb' ⊢
      refine ⟨trivial, fun k => ?_⟩
      simp only [get, putAt_get]
      by_cases h1 : o ≤ k ∧ k < o + m.length
      · have : Nat.blt k n = true := nblt_iff.2 (by omega)
        have h3 : k - o < m.length := by omega
        simp only [if_pos h1, this, cond_true]
        simp [h3]
      · simp only [if_neg h1]; exact (if_neg h1).symm
    · rename_i n z t m
      cases h; simp only [size] at hb' ⊢
      refine ⟨trivial, fun k => ?_⟩
      rw [rawget]
      simp only [get, putAt_get, List.length_map]
      by_cases h1 : o ≤ k ∧ k < o + m.length
      · have : Nat.blt k n = true := nblt_iff.2 (by omega)
        have h3 : k - o < m.length := by omega
        simp only [if_pos h1, this, cond_true]
        simp [h3]
      · simp only [if_neg h1]; exact (if_neg h1).symm
    · cases h
end Cs

/-! ### Reading a segment -/
theorem getN_of {h : Heap} {i : Nat} : ∀ (m o : Nat), (∀ k, k < m → ∃ v, cellAt h i (o + k) = some v) → ∃ l, getN h i o m = some l ∧ l.length = m ∧ ∀ k, k < m → l[k]? = cellAt h i (o + k)
  | 0, o, _ => ⟨[], rfl, rfl, fun k hk => by omega⟩
  | m + 1, o, hc => by
    obtain ⟨v, hv⟩ := hc 0 (by omega)
    obtain ⟨l, hl, hlen, hget⟩ := getN_of m (o + 1) (fun k hk => by obtain ⟨x, hx⟩ := hc (k + 1) (by omega); exact ⟨x, by rw [← hx]; congr 1; omega⟩)
    refine ⟨v :: l, by simp [getN] at hv ⊢; simp [hv, hl], by simp [hlen], fun k hk => ?_⟩
    cases k with
    | zero => simpa using hv.symm
    | succ k => simp only [List.getElem?_cons_succ]; rw [hget k (by omega)]; congr 1; omega

/-- What a slice or a string holds, as a segment. -/
def segOf (h : Heap) (x : AV) (n size : Nat) : Option Cs :=
  match x with
  | .sl i o _ _ => match h.get i with
    | some ob => match ob.conts with
      | some c => c.sub o (n * size)
      | none => none
    | none => none
  | .slU i o _ _ => match h.get i with
    | some ob => match ob.conts with
      | some c => c.sub o (n * size)
      | none => none
    | none => none
  | .lit (.slice none _ _) => some (.av [])
  | .lit (.string s) => bif Nat.beq size 1 then some (.raw ((s.extract 0 n).data.toList.map fun b => .int .u8 b.toNat)) else none
  | _ => none

theorem loadCells_seg {P : Program} {h : Heap} {ρ : Ren} {T : Nat → Prop} {w : World} (hR : Rel h ρ T w) {i o m : Nat} {ob : AObj} {c d : Cs} {a : Loc} (hi : h.get i = some ob) (hc : ob.conts = some c)
    (hs : c.sub o m = some d) (ha : ρ i = some a) : ∃ vs : Array Value, (loadCells ⟨a.blk, a.base + o, none⟩ m).run P w = .ok vs w ∧ vs.size = d.size ∧ CRel ρ d vs 0 := by
  obtain ⟨hle, hsz, hseg⟩ := Cs.sub_spec hs
  have hcell : ∀ k, cellAt h i k = c.get k := fun k => by simp [cellAt, hi, hc]
  obtain ⟨l, hl, hlen, hget⟩ := getN_of (h := h) (i := i) m o (fun k hk => by rw [hcell]; exact (hseg k hk).2)
  obtain ⟨vs, hvs, hlr⟩ := run_loadCellsFrom (P := P) hR ha o m 0 #[] l (by simpa using hl)
  refine ⟨vs.toArray, by simpa [loadCells] using hvs, by simp [← hlr.length, hlen, hsz], fun k v hk => ?_⟩
  have hkm : k < m := by rw [← hsz]; exact Cs.get_lt hk
  have : l[k]? = some v := by rw [hget k hkm, hcell, ← (hseg k hkm).1, hk]
  obtain ⟨u, hu, hr⟩ := hlr.get k v this
  exact ⟨u, by simpa using hu, hr⟩

theorem firstCells_seg {P : Program} {h : Heap} {ρ : Ren} {T : Nat → Prop} {w : World} (hR : Rel h ρ T w) {x : AV} {u : Value} {n size : Nat} {d : Cs} (hs : segOf h x n size = some d) (hu : VRel ρ x u) :
    ∃ vs : Array Value, (Builtin.firstCells size n u).run P w = .ok vs w ∧ vs.size = d.size ∧ CRel ρ d vs 0 := by
  unfold segOf at hs
  split at hs
  · split at hs
    · rename_i ob hi
      split at hs
      · rename_i c hc
        simp only [VRel] at hu; obtain ⟨a, ha, rfl⟩ := hu
        simpa [Builtin.firstCells] using loadCells_seg (P := P) hR hi hc hs ha
      · cases hs
    · cases hs
  · split at hs
    · rename_i ob hi
      split at hs
      · rename_i c hc
        simp only [VRel] at hu; obtain ⟨a, _, ha, rfl, _⟩ := hu
        simpa [Builtin.firstCells] using loadCells_seg (P := P) hR hi hc hs ha
      · cases hs
    · cases hs
  · cases hs; simp only [VRel] at hu; subst hu
    exact ⟨#[], by simp [Builtin.firstCells], rfl, fun k v hk => by simp [Cs.get] at hk⟩
  · rename_i s
    cases hb : Nat.beq size 1 with
    | false => rw [hb] at hs; simp at hs
    | true =>
    rw [hb] at hs; simp only [cond_true, Option.some.injEq] at hs; subst hs
    simp only [VRel] at hu; subst hu
    refine ⟨(s.extract 0 n).data.map fun b => .int .u8 b.toNat, by simp only [Builtin.firstCells, Sem.run_pure], by simp [Cs.size], fun k v hk => ?_⟩
    simp only [Cs.get] at hk
    split at hk
    · rename_i y hy
      cases hk
      refine ⟨y, ?_, by simp only [VRel]⟩
      rw [List.getElem?_map, Array.getElem?_toList] at hy
      rw [Nat.zero_add, Array.getElem?_map]
      exact hy
    · cases hk
  · cases hs

/-! ### Writing a segment -/
theorem run_storeCells {P : Program} {e : TypeId} (b : Nat) : ∀ (us : List Value) (o k : Nat) (w : World) (arr : Array Value), w.heap[b]? = some (.cells arr e (0, 0)) → (∀ u ∈ us, u.oneCell' = true) → o + k + us.length ≤ arr.size →
    ∃ w' arr', (storeCells ⟨b, o, none⟩ us k).run P w = .ok () w' ∧ w'.heap[b]? = some (.cells arr' e (0, 0)) ∧ arr'.size = arr.size ∧ w'.heap.size = w.heap.size ∧ (∀ c, c ≠ b → w'.heap[c]? = w.heap[c]?) ∧
      w'.os = w.os ∧ w'.tape = w.tape ∧ w'.output = w.output ∧ ∀ j, arr'[j]? = if o + k ≤ j ∧ j < o + k + us.length then us[j - (o + k)]? else arr[j]?
  | [], o, k, w, arr, hb, _, _ => ⟨w, arr, by simp [storeCells], hb, rfl, rfl, fun _ _ => rfl, rfl, rfl, rfl, fun j => by simp; intro h1 h2; omega⟩
  | u :: us, o, k, w, arr, hb, h1, hsz => by
    simp only [List.length_cons] at hsz
    have ho : o + k < arr.size := by omega
    obtain ⟨w', arr', hrun, hb', hsz', hw, hne, ho1, ho2, ho3, hget⟩ := run_storeCells (P := P) b us o (k + 1) (w.setCell ⟨b, o + k, none⟩ u) (arr.setIfInBounds (o + k) u) (heap_setCell hb) (fun x hx => h1 x (by simp [hx])) (by simp; omega)
    refine ⟨w', arr', ?_, hb', by simpa using hsz', by simpa using hw, fun c hc => by rw [hne c hc, heap_setCell_ne hc], ho1, ho2, ho3, fun j => ?_⟩
    · have hcell : w.cell? ⟨b, o + k, none⟩ = some arr[o + k] := by simp [World.cell?, hb, ho]
      have hfz : w.frozen? ⟨b, o + k, none⟩ = false := by simp [World.frozen?, hb]
      simp only [storeCells, Sem.run_bind, add_zero_spot, run_store P w _ u _ (h1 u (by simp)), hcell, hfz, Bool.false_eq_true, if_false, Result.andThen_ok, hrun]
    · rw [hget]
      simp only [List.length_cons]
      by_cases h2 : o + k = j
      · rw [if_neg (by omega), if_pos (by omega)]
        subst h2; simp [ho]
      · by_cases h3 : o + k ≤ j ∧ j < o + k + (us.length + 1)
        · rw [if_pos (by omega), if_pos h3]
          have : j - (o + k) = (j - (o + (k + 1))) + 1 := by omega
          rw [this]; simp
        · rw [if_neg (by omega), if_neg h3, Array.getElem?_setIfInBounds_ne h2]

/-- Each cell of a segment is one cell. -/
def oneCells : Cs → Bool
  | .av l => l.all oneCell
  | .raw l => l.all Value.oneCell'
  | .tr .. => false
  | .row .. => false
theorem oneCells_spec {ρ : Ren} {d : Cs} {vs : Array Value} (h : oneCells d = true) (hsz : vs.size = d.size) (hc : CRel ρ d vs 0) : ∀ u ∈ vs.toList, u.oneCell' = true := by
  intro u hu
  obtain ⟨k, hk⟩ := List.mem_iff_getElem?.1 hu
  have hk' : vs[k]? = some u := by simpa using hk
  have hlt : k < d.size := by rw [← hsz]; exact (Array.getElem?_eq_some_iff.1 hk').1
  cases d with
  | av l =>
    simp only [Cs.size] at hlt
    obtain ⟨y, hy, hr⟩ := hc k l[k] (by simp [Cs.get, hlt])
    rw [Nat.zero_add, hk'] at hy; cases hy
    exact oneCell_spec (List.all_eq_true.1 h _ (List.getElem_mem hlt)) hr
  | raw l =>
    simp only [Cs.size] at hlt
    obtain ⟨y, hy, hr⟩ := hc k (.lit l[k]) (by simp [Cs.get, hlt])
    rw [Nat.zero_add, hk'] at hy; cases hy
    simp only [VRel] at hr; subst hr
    exact List.all_eq_true.1 h _ (List.getElem_mem hlt)
  | tr n z t => cases h
  | row m n g wr => cases h

def putSeg (h : Heap) (i o : Nat) (d : Cs) : Option Heap :=
  match h.get i with
  | some (.cells e c) => match c.put o d with
    | some c' => some (h.set i (.cells e c'))
    | none => none
  | some (.room e c) => match c.put o d with
    | some c' => some (h.set i (.room e c'))
    | none => none
  | _ => none

theorem CRel.put {ρ : Ren} {c c' d : Cs} {arr arr' vs : Array Value} {o : Nat} (hc : CRel ρ c arr 0) (hp : c.put o d = some c') (hd : CRel ρ d vs 0) (hvs : vs.size = d.size)
    (hget : ∀ j, arr'[j]? = if o ≤ j ∧ j < o + vs.size then vs[j - o]? else arr[j]?) : CRel ρ c' arr' 0 := by
  obtain ⟨_, _, hg⟩ := Cs.put_spec hp
  intro k v hk
  rw [hg] at hk
  simp only [Nat.zero_add]
  rw [hget, hvs]
  by_cases h1 : o ≤ k ∧ k < o + d.size
  · rw [if_pos h1] at hk ⊢
    obtain ⟨u, hu, hr⟩ := hd _ _ hk
    exact ⟨u, by simpa using hu, hr⟩
  · rw [if_neg h1] at hk ⊢
    obtain ⟨u, hu, hr⟩ := hc _ _ hk
    exact ⟨u, by simpa using hu, hr⟩

theorem putSeg_ok {P : Program} {h h' : Heap} {ρ : Ren} {T : Nat → Prop} {w : World} (hR : Rel h ρ T w) {i o : Nat} {d : Cs} {vs : Array Value} {a : Loc} (hs : putSeg h i o d = some h') (ha : ρ i = some a)
    (h1 : oneCells d = true) (hvs : vs.size = d.size) (hd : CRel ρ d vs 0) :
    ∃ w', (storeCells ⟨a.blk, a.base + o, none⟩ vs.toList).run P w = .ok () w' ∧ Rel h' ρ T w' ∧ h'.next = h.next ∧ Keeps T w w' := by
  have hone := oneCells_spec h1 hvs hd
  have main : ∀ (x : AObj) (c c' : Cs) (e : TypeId) (arr : Array Value) (mk : Cs → AObj), h.get i = some x → h' = h.set i (mk c') → c.put o d = some c' → a.base = 0 → w.heap[a.blk]? = some (.cells arr e (0, 0)) → c.size ≤ arr.size →
      CRel ρ c arr 0 → (∀ S, OHolds ρ w T a S x → S a.blk) →
      (∀ S (w' : World) arr', S a.blk → OHolds ρ w T a S x → w'.heap[a.blk]? = some (.cells arr' e (0, 0)) → arr'.size = arr.size → CRel ρ c' arr' 0 → OHolds ρ w' T a S (mk c')) →
      ∃ w', (storeCells ⟨a.blk, a.base + o, none⟩ vs.toList).run P w = .ok () w' ∧ Rel h' ρ T w' ∧ h'.next = h.next ∧ Keeps T w w' := by
    intro x c c' e arr mk hx hh' hput h0 hb hsz hcr hown hnew
    obtain ⟨hle, _, _⟩ := Cs.put_spec hput
    obtain ⟨w', arr', hrun, hb', hsz', hw, hne, ho1, ho2, ho3, hget⟩ := run_storeCells (P := P) a.blk vs.toList (a.base + o) 0 w arr hb hone (by simp [hvs]; omega)
    have hget' : ∀ j, arr'[j]? = if o ≤ j ∧ j < o + vs.size then vs[j - o]? else arr[j]? := fun j => by
      rw [hget]; simp [h0]
    subst hh'
    refine ⟨w', hrun, hR.upd hx ha hw hne hown fun S hS hx' => hnew S w' arr' hS hx' hb' hsz' (hcr.put hput hd hvs hget'), by simp, ⟨by omega, ho1, ho2, ho3, fun b hb2 => hne b fun hbb => hb2 ?_⟩⟩
    subst hbb
    exact hR.own_T hx ha hown
  obtain ⟨S, r1, _⟩ := id hR
  unfold putSeg at hs
  split at hs
  · rename_i e c hx
    split at hs
    · rename_i c' hput
      cases hs
      obtain ⟨a', ha', ho⟩ := r1 i _ hx
      obtain rfl : a' = a := Option.some.inj (ha'.symm.trans ha)
      obtain ⟨h0, hS, arr, hb, hsz, hlim, hcr⟩ := ho
      refine main _ c c' e arr (AObj.cells e) hx rfl hput h0 hb (by omega) hcr (fun S' h => h.2.1) fun S' w' arr' hS' _ hb' hsz' hc' => ?_
      have hcs := (Cs.put_spec hput).2.1
      exact ⟨h0, hS', arr', hb', by omega, by omega, hc'⟩
    · cases hs
  · rename_i e c hx
    split at hs
    · rename_i c' hput
      cases hs
      obtain ⟨a', ha', ho⟩ := r1 i _ hx
      obtain rfl : a' = a := Option.some.inj (ha'.symm.trans ha)
      obtain ⟨h0, hS, arr, hb, hsz, hle, hcr⟩ := ho
      refine main _ c c' e arr (AObj.room e) hx rfl hput h0 hb (by omega) hcr (fun S' h => h.2.1) fun S' w' arr' hS' _ hb' hsz' hc' => ?_
      have hcs := (Cs.put_spec hput).2.1
      exact ⟨h0, hS', arr', hb', by omega, by omega, hc'⟩
    · cases hs
  · cases hs
end Go.Proofs.YtpbdlibgbkhlhaaGreat.SE
