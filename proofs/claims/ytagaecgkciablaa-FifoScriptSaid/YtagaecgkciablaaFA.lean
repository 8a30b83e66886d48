/- A ring, in plain lists: what it holds, and how that turns. -/
import Derived.Test.YtagaecgkciablaaSE16
namespace Go.Proofs.Ytagaecgkciablaa
open Go SE

/-- A link. -/
structure Lk where
  key : ByteArray
  id : Int
  ver : Int
  line : Int
  cls : Int
def Lk.cells (x : Lk) : List Value := [.string x.key, .int .u64 x.id, .int .u64 x.ver, .int .i64 x.line, .int .i64 x.cls]
def Lk.zero : Lk := ⟨⟨#[]⟩, 0, 0, 0, 0⟩
def Lk.av (x : Lk) : AV := .agg (x.cells.map .lit)
theorem cells_len (x : Lk) : x.cells.length = 5 := rfl

/-- The row ls, from place p on, round its end, is xs and more. -/
structure Ring {α : Type} (ls : List α) (p : Nat) (xs : List α) : Prop where
  lt : p < ls.length
  le : xs.length ≤ ls.length
  at' : ∀ i, i < xs.length → ls[(p + i) % ls.length]? = xs[i]?

theorem mod_lo {p i n : Nat} (h : p + i < n) : (p + i) % n = p + i := Nat.mod_eq_of_lt h
theorem mod_hi {p i n : Nat} (hp : p < n) (hi : i < n) (h : ¬ p + i < n) : (p + i) % n = p + i - n := by
  rw [Nat.mod_eq_sub_mod (by omega), Nat.mod_eq_of_lt (by omega)]
theorem mod_step {p i n : Nat} : ((p + 1) % n + i) % n = (p + (i + 1)) % n := by
  rw [Nat.mod_add_mod]; congr 1; omega

section
variable {α : Type} {ls xs : List α} {p : Nat} {x : α}
theorem Ring.head (h : Ring ls p (x :: xs)) : ls[p]? = some x := by
  have := h.at' 0 (by simp)
  rw [Nat.add_zero, Nat.mod_eq_of_lt h.lt] at this
  simpa using this
theorem Ring.pop (z : α) (h : Ring ls p (x :: xs)) : Ring (ls.set p z) ((p + 1) % ls.length) xs := by
  have hlt := h.lt
  have hle := h.le
  simp only [List.length_cons] at hle
  refine ⟨by rw [List.length_set]; exact Nat.mod_lt _ (by omega), by rw [List.length_set]; omega, fun i hi => ?_⟩
  have := h.at' (i + 1) (by simp; omega)
  rw [List.length_set, mod_step, List.getElem?_set]
  rw [if_neg]
  · simpa using this
  · intro he
    by_cases hc : p + (i + 1) < ls.length
    · rw [mod_lo hc] at he; omega
    · rw [mod_hi hlt (by omega) hc] at he; omega
theorem Ring.put (h : Ring ls p xs) (hn : xs.length < ls.length) : Ring (ls.set ((p + xs.length) % ls.length) x) p (xs ++ [x]) := by
  have hlt := h.lt
  refine ⟨by rw [List.length_set]; exact hlt, by simp; omega, fun i hi => ?_⟩
  rw [List.length_append, List.length_singleton] at hi
  rw [List.length_set, List.getElem?_set]
  by_cases he : i = xs.length
  · subst he
    rw [if_pos rfl, if_pos (Nat.mod_lt _ (by omega))]; simp
  · rw [if_neg, List.getElem?_append_left (by omega), h.at' i (by omega)]
    intro hh
    apply he
    by_cases h1 : p + xs.length < ls.length <;> by_cases h2 : p + i < ls.length
    · rw [mod_lo h1, mod_lo h2] at hh; omega
    · rw [mod_lo h1, mod_hi hlt (by omega) h2] at hh; omega
    · rw [mod_hi hlt hn h1, mod_lo h2] at hh; omega
    · rw [mod_hi hlt hn h1, mod_hi hlt (by omega) h2] at hh; omega
theorem Ring.grow (h : Ring ls p xs) (hn : xs.length = ls.length) : Ring (ls.drop p ++ ls.take p ++ [x]) 0 (xs ++ [x]) := by
  have hlt := h.lt
  have hlen : (ls.drop p ++ ls.take p).length = ls.length := by simp; omega
  have hd : (ls.drop p).length = ls.length - p := by simp
  refine ⟨by rw [List.length_append]; simp, by rw [List.length_append, List.length_append, hlen]; simp; omega, fun i hi => ?_⟩
  rw [List.length_append, List.length_singleton] at hi
  rw [Nat.zero_add, List.length_append, hlen, List.length_singleton, Nat.mod_eq_of_lt (by omega)]
  by_cases he : i = xs.length
  · subst he; rw [List.getElem?_append_right (by omega), hlen, List.getElem?_append_right (by omega), hn]
  · rw [List.getElem?_append_left (by omega)]
    have hr : (xs ++ [x])[i]? = xs[i]? := List.getElem?_append_left (by omega)
    rw [hr, ← h.at' i (by omega)]
    by_cases h2 : p + i < ls.length
    · rw [mod_lo h2, List.getElem?_append_left (by omega), List.getElem?_drop]
    · rw [mod_hi hlt (by omega) h2, List.getElem?_append_right (by omega), List.getElem?_take, if_pos (by omega)]
      congr 1; omega
end
end Go.Proofs.Ytagaecgkciablaa
