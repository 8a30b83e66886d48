/- Go's operations on values that stand for values, and that each does what the model does. Plain definitions, and one law for each. -/
import Derived.Test.YtpbdlibgbkhlhaaGreatE1
import Derived.Laws.Sem
import Derived.Laws.World
namespace Go.Proofs.YtpbdlibgbkhlhaaGreat.SE
open Go

/-! ### Types -/
inductive TD where
  | bool | string
  | int (k : IntKind)
  | ptr (e : TypeId)
  | slice (e : TypeId)
  | array (n : Nat) (e : TypeId)
  | struct (fs : List (Nat × TypeId × Bool)) (held : Bool)
  | map (k e : TypeId)
  | func
  | other

structure TI where
  size : Nat
  bytes : Nat
  zero : List Value
  guard : Bool
  desc : TD
  zv : Value

def TI.agg (t : TI) : Bool := match t.desc with
  | .struct .. => true
  | .array .. => true
  | _ => false

def mkTD (p : Program) (t : TypeId) : TypeDesc → TD
  | .bool => .bool
  | .int k => .int k
  | .string => .string
  | .pointer e => .ptr e
  | .slice e => .slice e
  | .array n e => .array n e
  | .struct fs => .struct (fs.toList.map fun f => (f.offset, f.type, f.name != "_")) (p.stoodInHeld t)
  | .map k e => .map k e
  | .func .. => .func
  | _ => .other

def mkTI (p : Program) (t : TypeId) : Option TI :=
  match p.info? t, p.underlying t with
  | some i, some d => match i.zero with
    | some z => some { size := i.size, bytes := i.bytes, zero := z.cells.toList, guard := p.eqGuardType p.depth t, desc := mkTD p t d, zv := z }
    | none => none
  | _, _ => none

abbrev TT := TypeId → Option TI
/-- The table says of the program's types what is so. -/
def TT.ok (P : Program) (tt : TT) : Prop := ∀ t ti, tt t = some ti → mkTI P t = some ti

theorem TT.ok.info {P : Program} {tt : TT} (h : tt.ok P) {t : TypeId} {ti : TI} (ht : tt t = some ti) :
    ∃ i d z, P.info? t = some i ∧ P.underlying t = some d ∧ i.size = ti.size ∧ i.bytes = ti.bytes ∧ i.zero = some z ∧ z.cells.toList = ti.zero ∧ mkTD P t d = ti.desc := by
  have := h t ti ht
  unfold mkTI at this
  split at this
  · rename_i i d hi hd
    split at this
    · rename_i z hz
      cases this
      exact ⟨i, d, z, hi, hd, rfl, rfl, hz, rfl, rfl⟩
    · cases this
  · cases this

section runs
variable {P : Program} {tt : TT} (hT : tt.ok P) {t : TypeId} {ti : TI} (ht : tt t = some ti) (w : World)
include hT ht
theorem run_sizeOf : (sizeOf t).run P w = .ok ti.size w := by
  obtain ⟨i, d, z, hi, _, hs, _⟩ := hT.info ht
  simp [sizeOf, typeInfo, hi, hs]
theorem run_isAgg : (isAgg t).run P w = .ok ti.agg w := by
  obtain ⟨i, d, z, _, hd, _, _, _, _, hm⟩ := hT.info ht
  simp only [isAgg, underlying, Sem.run_bind, run_program, Result.andThen_ok, hd, Sem.run_pure]
  cases d <;> simp [mkTD] at hm <;> simp [TI.agg, ← hm]
theorem run_zeroV : (zeroValue t).run P w = .ok ti.zv w := by
  have := hT t ti ht
  unfold mkTI at this
  split at this
  · rename_i i d hi hd
    split at this
    · rename_i z hz
      cases this
      simp [zeroValue, typeInfo, hi, hz]
    · cases this
  · cases this
theorem run_zeroValue : ∃ z, (zeroValue t).run P w = .ok z w ∧ z.cells.toList = ti.zero := by
  obtain ⟨i, d, z, hi, _, _, _, hz, hzc, _⟩ := hT.info ht
  exact ⟨z, by simp [zeroValue, typeInfo, hi, hz], hzc⟩
theorem run_bytes : ∃ i, (typeInfo t).run P w = .ok i w ∧ i.bytes = ti.bytes ∧ i.size = ti.size := by
  obtain ⟨i, d, z, hi, _, hs, hb, _⟩ := hT.info ht
  exact ⟨i, by simp [typeInfo, hi], hb, hs⟩
theorem run_under : ∃ d, (underlying t).run P w = .ok d w ∧ P.underlying t = some d ∧ mkTD P t d = ti.desc := by
  obtain ⟨i, d, z, _, hd, _, _, _, _, hm⟩ := hT.info ht
  exact ⟨d, by simp [underlying, hd], hd, hm⟩
end runs

theorem mkTD_slice {P : Program} {t e : TypeId} {d : TypeDesc} (h : mkTD P t d = .slice e) : d = .slice e := by cases d <;> simp [mkTD] at h; rw [h]
theorem mkTD_array {P : Program} {t e : TypeId} {n : Nat} {d : TypeDesc} (h : mkTD P t d = .array n e) : d = .array n e := by cases d <;> simp [mkTD] at h; rw [h.1, h.2]
theorem mkTD_ptr {P : Program} {t e : TypeId} {d : TypeDesc} (h : mkTD P t d = .ptr e) : d = .pointer e := by cases d <;> simp [mkTD] at h; rw [h]
theorem mkTD_map {P : Program} {t k e : TypeId} {d : TypeDesc} (h : mkTD P t d = .map k e) : d = .map k e := by cases d <;> simp [mkTD] at h; rw [h.1, h.2]
theorem mkTD_string {P : Program} {t : TypeId} {d : TypeDesc} (h : mkTD P t d = .string) : d = .string := by cases d <;> simp [mkTD] at h; rfl
theorem mkTD_bool {P : Program} {t : TypeId} {d : TypeDesc} (h : mkTD P t d = .bool) : d = .bool := by cases d <;> simp [mkTD] at h; rfl
theorem mkTD_int {P : Program} {t : TypeId} {k : IntKind} {d : TypeDesc} (h : mkTD P t d = .int k) : d = .int k := by cases d <;> simp [mkTD] at h; rw [h]
theorem TT.ok.guard {P : Program} {tt : TT} (h : tt.ok P) {t : TypeId} {ti : TI} (ht : tt t = some ti) : P.eqGuardType P.depth t = ti.guard := by
  have := h t ti ht
  unfold mkTI at this
  split at this
  · split at this
    · cases this; rfl
    · cases this
  · cases this
theorem mkTD_func {P : Program} {t : TypeId} {d : TypeDesc} (h : mkTD P t d = .func) : ∃ a b c, d = .func a b c := by cases d <;> simp [mkTD] at h; exact ⟨_, _, _, rfl⟩
theorem mkTD_struct {P : Program} {t : TypeId} {d : TypeDesc} {fs : List (Nat × TypeId × Bool)} {b : Bool} (h : mkTD P t d = .struct fs b) :
    ∃ gs, d = .struct gs ∧ gs.toList.map (fun f => (f.offset, f.type, f.name != "_")) = fs ∧ P.stoodInHeld t = b := by
  cases d <;> simp [mkTD] at h; exact ⟨_, rfl, h.1, h.2⟩

/-! ### Small words on values -/
def oneCell : AV → Bool
  | .any | .agg _ | .tup _ => false
  | .lit v => v.oneCell'
  | _ => true

/-- The cells of a value. -/
def acells : AV → Option (List AV)
  | .any => none
  | .agg cs => some cs
  | .lit (.agg vs) => some (vs.toList.map .lit)
  | v => some [v]

theorem acells_spec {ρ : Ren} {v : AV} {u : Value} {cs : List AV} (h : acells v = some cs) (hv : VRel ρ v u) : LRel ρ cs u.cells.toList := by
  cases v with
  | any => simp [acells] at h
  | agg l => simp only [acells, Option.some.injEq] at h; subst h; simp only [VRel] at hv; obtain ⟨vs, rfl, hl⟩ := hv; exact hl
  | lit x =>
    simp only [VRel] at hv; subst hv
    cases u <;> simp only [acells, Option.some.injEq] at h <;> subst h <;> first | exact LRel.lits _ | exact .cons (by simp [VRel]) .nil
  | ptr i o => simp only [acells, Option.some.injEq] at h; subst h; have hv' := hv; simp only [VRel] at hv; obtain ⟨a, _, rfl⟩ := hv; exact .cons hv' .nil
  | sl i o n c => simp only [acells, Option.some.injEq] at h; subst h; have hv' := hv; simp only [VRel] at hv; obtain ⟨a, _, rfl⟩ := hv; exact .cons hv' .nil
  | slU i o n c => simp only [acells, Option.some.injEq] at h; subst h; have hv' := hv; simp only [VRel] at hv; obtain ⟨a, _, _, rfl, _⟩ := hv; exact .cons hv' .nil
  | ptrE i k m j => simp only [acells, Option.some.injEq] at h; subst h; have hv' := hv; simp only [VRel] at hv; obtain ⟨a, _, rfl⟩ := hv; exact .cons hv' .nil
  | slE i k m n c => simp only [acells, Option.some.injEq] at h; subst h; have hv' := hv; simp only [VRel] at hv; obtain ⟨a, p, _, rfl, _⟩ := hv; exact .cons hv' .nil
  | slW i k m n => simp only [acells, Option.some.injEq] at h; subst h; have hv' := hv; simp only [VRel] at hv; obtain ⟨a, p, c, _, rfl, _⟩ := hv; exact .cons hv' .nil
  | slR i k m n => simp only [acells, Option.some.injEq] at h; subst h; have hv' := hv; simp only [VRel] at hv; rcases hv with ⟨_, rfl⟩ | ⟨a, p, c, _, rfl, _⟩ <;> exact .cons hv' .nil
  | slZ z i k m n => simp only [acells, Option.some.injEq] at h; subst h; have hv' := hv; simp only [VRel] at hv; rcases hv with ⟨_, _, rfl⟩ | ⟨_, a, p, c, _, rfl, _⟩ <;> exact .cons hv' .nil
  | one => simp only [acells, Option.some.injEq] at h; subst h; have hv' := hv; simp only [VRel] at hv; cases u <;> first | exact .cons hv' .nil | (simp [Value.oneCell'] at hv)
  | mp i => simp only [acells, Option.some.injEq] at h; subst h; have hv' := hv; simp only [VRel] at hv; obtain ⟨a, _, rfl⟩ := hv; exact .cons hv' .nil
  | fn f x y => simp only [acells, Option.some.injEq] at h; subst h; have hv' := hv; simp only [VRel] at hv; obtain ⟨a, _, rfl, _⟩ := hv; exact .cons hv' .nil
  | tup l => simp only [acells, Option.some.injEq] at h; subst h; have hv' := hv; simp only [VRel] at hv; obtain ⟨a, rfl, _⟩ := hv; exact .cons hv' .nil
  | ifc t x => simp only [acells, Option.some.injEq] at h; subst h; have hv' := hv; simp only [VRel] at hv; obtain ⟨a, rfl, _⟩ := hv; exact .cons hv' .nil

theorem oneCell_spec {ρ : Ren} {v : AV} {u : Value} (h : oneCell v = true) (hv : VRel ρ v u) : u.oneCell' = true := by
  cases v <;> simp [oneCell] at h <;> simp only [VRel] at hv
  case lit x => subst hv; exact h
  case ptr i o => obtain ⟨a, _, rfl⟩ := hv; rfl
  case sl i o n c => obtain ⟨a, _, rfl⟩ := hv; rfl
  case slU i o n c => obtain ⟨a, _, _, rfl, _⟩ := hv; rfl
  case ptrE i k m j => obtain ⟨a, _, rfl⟩ := hv; rfl
  case slE i k m n c => obtain ⟨a, p, _, rfl, _⟩ := hv; rfl
  case slW i k m n => obtain ⟨a, p, c, _, rfl, _⟩ := hv; rfl
  case slR i k m n => rcases hv with ⟨_, rfl⟩ | ⟨a, p, c, _, rfl, _⟩ <;> rfl
  case slZ z i k m n => rcases hv with ⟨_, _, rfl⟩ | ⟨_, a, p, c, _, rfl, _⟩ <;> rfl
  case one => exact hv
  case mp i => obtain ⟨a, _, rfl⟩ := hv; rfl
  case fn f x y => obtain ⟨a, _, rfl, _⟩ := hv; rfl
  case ifc t x => obtain ⟨a, rfl, _⟩ := hv; rfl

/-! ### What an operation comes to -/
/-- It yields in every world, and leaves it. -/
def NOk (P : Program) (s : Sem Value) (ρ : Ren) (v : AV) : Prop := ∃ u, (∀ w, s.run P w = .ok u w) ∧ VRel ρ v u
/-- It yields in this world, and leaves it. -/
def ROk (P : Program) (s : Sem Value) (ρ : Ren) (w : World) (v : AV) : Prop := ∃ u, s.run P w = .ok u w ∧ VRel ρ v u
/-- It yields, and turns the heap. -/
def XOk (P : Program) (s : Sem Value) (h : Heap) (ρ : Ren) (T : Nat → Prop) (w : World) (v : AV) (h' : Heap) : Prop :=
  ∃ u w' ρ', s.run P w = .ok u w' ∧ (∀ i, i < h.next → ρ' i = ρ i) ∧ ρ.le ρ' ∧ h.next ≤ h'.next ∧ Rel h' ρ' T w' ∧ VRel ρ' v u ∧ Keeps T w w'
theorem NOk.rOk {P : Program} {s : Sem Value} {ρ : Ren} {v : AV} (h : NOk P s ρ v) (w : World) : ROk P s ρ w v := let ⟨u, h1, h2⟩ := h; ⟨u, h1 w, h2⟩
theorem ROk.xOk {P : Program} {s : Sem Value} {ρ : Ren} {v : AV} {h : Heap} {T : Nat → Prop} {w : World} (hR : Rel h ρ T w) (hr : ROk P s ρ w v) : XOk P s h ρ T w v h :=
  let ⟨u, h1, h2⟩ := hr; ⟨u, w, ρ, h1, fun _ _ => rfl, Ren.le_refl _, Nat.le_refl _, hR, h2, Keeps.refl _ _⟩

/-! ### Loads -/
def AObj.conts : AObj → Option Cs
  | .cells _ c => some c
  | .room _ c => some c
  | .ro c => some c
  | _ => none

def cellAt (h : Heap) (i o : Nat) : Option AV :=
  match h.get i with
  | some x => match x.conts with
    | some c => c.get o
    | none => none
  | none => none

theorem Rel.cell {h : Heap} {ρ : Ren} {T : Nat → Prop} {w : World} (hR : Rel h ρ T w) {i o : Nat} {v : AV} (hc : cellAt h i o = some v) :
    ∃ a, ρ i = some a ∧ ∃ u, w.cell? ⟨a.blk, a.base + o, none⟩ = some u ∧ VRel ρ v u := by
  obtain ⟨S, h1, _⟩ := hR
  unfold cellAt at hc
  split at hc
  · rename_i x hx
    obtain ⟨a, ha, ho⟩ := h1 i x hx
    refine ⟨a, ha, ?_⟩
    cases x <;> simp [AObj.conts] at hc
    case cells e c =>
      obtain ⟨h0, hS, arr, hb, hsz, _, hcr⟩ := ho
      obtain ⟨u, hu, hr⟩ := hcr o v hc
      exact ⟨u, by simp [World.cell?, hb, h0]; simpa using hu, hr⟩
    case room e c =>
      obtain ⟨h0, hS, arr, hb, hsz, _, hcr⟩ := ho
      obtain ⟨u, hu, hr⟩ := hcr o v hc
      exact ⟨u, by simp [World.cell?, hb, h0]; simpa using hu, hr⟩
    case ro c =>
      rcases ho with h0 | ⟨hT, arr, e, f, hb, hcr⟩
      · have := Cs.get_lt hc
        omega
      · obtain ⟨u, hu, hr⟩ := hcr o v hc
        exact ⟨u, by simp [World.cell?, hb]; exact hu, hr⟩
  · cases hc

def getN (h : Heap) (i : Nat) : Nat → Nat → Option (List AV)
  | _, 0 => some []
  | o, n + 1 => match cellAt h i o with
    | some v => match getN h i (o + 1) n with
      | some l => some (v :: l)
      | none => none
    | none => none

theorem getN_length {h : Heap} {i : Nat} : ∀ {n o : Nat} {l : List AV}, getN h i o n = some l → l.length = n
  | 0, o, l, hg => by simp [getN] at hg; simp [← hg]
  | n + 1, o, l, hg => by
    simp only [getN] at hg
    split at hg
    · split at hg
      · rename_i l' hl
        cases hg
        simp [getN_length hl]
      · cases hg
    · cases hg

theorem add_zero_spot (b o n : Nat) : (Addr.add ⟨b, o, none⟩ n) = ⟨b, o + n, none⟩ := by
  unfold Addr.add
  split
  · rename_i h; subst h; rfl
  · rfl

theorem run_loadCellsFrom {P : Program} {h : Heap} {ρ : Ren} {T : Nat → Prop} {w : World} (hR : Rel h ρ T w) {i : Nat} {a : Loc} (ha : ρ i = some a) (o : Nat) :
    ∀ (n k : Nat) (acc : Array Value) (l : List AV), getN h i (o + k) n = some l →
      ∃ vs : List Value, (loadCellsFrom ⟨a.blk, a.base + o, none⟩ k n acc).run P w = .ok (acc ++ vs.toArray) w ∧ LRel ρ l vs
  | 0, k, acc, l, hg => by
    simp [getN] at hg; subst hg
    exact ⟨[], by simp [loadCellsFrom], .nil⟩
  | n + 1, k, acc, l, hg => by
    simp only [getN] at hg
    split at hg
    · rename_i v hv
      split at hg
      · rename_i l' hl
        cases hg
        obtain ⟨a', ha', u, hu, hr⟩ := hR.cell hv
        obtain rfl : a' = a := Option.some.inj (ha'.symm.trans ha)
        obtain ⟨vs, hvs, hlr⟩ := run_loadCellsFrom (P := P) hR ha o n (k + 1) (acc.push u) l' (by rw [← Nat.add_assoc]; exact hl)
        refine ⟨u :: vs, ?_, .cons hr hlr⟩
        have e : a'.base + (o + k) = a'.base + o + k := by omega
        rw [e] at hu
        simp only [loadCellsFrom, Sem.run_bind, run_load, add_zero_spot, hu, Result.andThen_ok, hvs]
        congr 1
        apply Array.ext'
        simp
      · cases hg
    · cases hg

/-- A variable's value. -/
def loadA (tt : TT) (t : TypeId) (a : AV) (h : Heap) : Option AV :=
  match a with
  | .ptr i o => match tt t with
    | some ti => bif ti.agg then (match getN h i o ti.size with | some l => some (.agg l) | none => none) else cellAt h i o
    | none => none
  | _ => none

theorem loadA_ok {P : Program} {tt : TT} (hT : tt.ok P) {h : Heap} {ρ : Ren} {T : Nat → Prop} {w : World} (hR : Rel h ρ T w) {t : TypeId} {a v : AV} {u : Value}
    (hl : loadA tt t a h = some v) (hu : VRel ρ a u) : ROk P (Instr.loadAt t u) ρ w v := by
  unfold loadA at hl
  split at hl
  · rename_i i o
    split at hl
    · rename_i ti hti
      simp only [VRel] at hu
      obtain ⟨a, ha, rfl⟩ := hu
      cases hagg : ti.agg with
      | true =>
        rw [hagg] at hl
        simp only [cond_true] at hl
        split at hl
        · rename_i l hg
          cases hl
          obtain ⟨vs, hvs, hlr⟩ := run_loadCellsFrom (P := P) hR ha o ti.size 0 #[] l hg
          refine ⟨.agg vs.toArray, ?_, by simp only [VRel]; exact ⟨vs.toArray, rfl, by simpa using hlr⟩⟩
          simp [Instr.loadAt, Instr.sureAddr, loadVar, run_isAgg hT hti, hagg, run_sizeOf hT hti, loadCells, hvs]
        · cases hl
      | false =>
        rw [hagg] at hl
        simp only [cond_false] at hl
        obtain ⟨a', ha', u, hu, hr⟩ := hR.cell hl
        obtain rfl : a' = a := Option.some.inj (ha'.symm.trans ha)
        exact ⟨u, by simp [Instr.loadAt, Instr.sureAddr, loadVar, run_isAgg hT hti, hagg, hu], hr⟩
    · cases hl
  · cases hl

/-! ### Stores -/
def setCell (h : Heap) (i o : Nat) (v : AV) : Option Heap :=
  match h.get i with
  | some (.cells e c) => match c.set o v with
    | some c' => some (h.set i (.cells e c'))
    | none => none
  | some (.room e c) => match c.set o v with
    | some c' => some (h.set i (.room e c'))
    | none => none
  | _ => none

theorem CRel.set {ρ : Ren} {c c' : Cs} {arr : Array Value} {o : Nat} {v : AV} {u : Value} (hc : CRel ρ c arr 0) (hs : c.set o v = some c') (hsz : c.size ≤ arr.size) (hv : VRel ρ v u) :
    CRel ρ c' (arr.setIfInBounds o u) 0 := by
  obtain ⟨hlt, _, hget⟩ := Cs.set_spec hs
  intro k x hx
  rw [hget] at hx
  by_cases hk : k = o
  · subst hk
    rw [if_pos rfl] at hx; cases hx
    refine ⟨u, ?_, hv⟩
    have : k < arr.size := by omega
    simp [this]
  · rw [if_neg hk] at hx
    obtain ⟨y, hy, hr⟩ := hc k x hx
    exact ⟨y, by simp only [Nat.zero_add] at hy ⊢; rw [Array.getElem?_setIfInBounds_ne (Ne.symm hk)]; exact hy, hr⟩

theorem heap_setCell {w : World} {b o : Nat} {u : Value} {arr : Array Value} {e : TypeId} (hb : w.heap[b]? = some (.cells arr e (0, 0))) :
    (w.setCell ⟨b, o, none⟩ u).heap[b]? = some (.cells (arr.setIfInBounds o u) e (0, 0)) := by
  simp [World.setCell, Array.getElem?_modify, hb]
theorem heap_setCell_ne {w : World} {b c o : Nat} {u : Value} (h : c ≠ b) : (w.setCell ⟨b, o, none⟩ u).heap[c]? = w.heap[c]? := by
  simp only [World.setCell, Array.getElem?_modify]
  rw [if_neg (Ne.symm h)]

theorem setCell_ok {P : Program} {h h' : Heap} {ρ : Ren} {T : Nat → Prop} {w : World} (hR : Rel h ρ T w) {i o : Nat} {v : AV} {u : Value} {a : Loc}
    (hs : setCell h i o v = some h') (ha : ρ i = some a) (h1 : oneCell v = true) (hv : VRel ρ v u) :
    (store ⟨a.blk, a.base + o, none⟩ u).run P w = .ok () (w.setCell ⟨a.blk, a.base + o, none⟩ u) ∧ Rel h' ρ T (w.setCell ⟨a.blk, a.base + o, none⟩ u) ∧ h'.next = h.next ∧
      Keeps T w (w.setCell ⟨a.blk, a.base + o, none⟩ u) := by
  have hu1 := oneCell_spec h1 hv
  have main : ∀ (x x' : AObj) (c c' : Cs) (e : TypeId) (arr : Array Value), h.get i = some x → h' = h.set i x' → c.set o v = some c' → a.base = 0 →
      w.heap[a.blk]? = some (.cells arr e (0, 0)) → c.size ≤ arr.size → (∀ S, OHolds ρ w T a S x → S a.blk) →
      (∀ S, S a.blk → OHolds ρ w T a S x → OHolds ρ (w.setCell ⟨a.blk, a.base + o, none⟩ u) T a S x') →
      (store ⟨a.blk, a.base + o, none⟩ u).run P w = .ok () (w.setCell ⟨a.blk, a.base + o, none⟩ u) ∧ Rel h' ρ T (w.setCell ⟨a.blk, a.base + o, none⟩ u) ∧ h'.next = h.next ∧
        Keeps T w (w.setCell ⟨a.blk, a.base + o, none⟩ u) := by
    intro x x' c c' e arr hx hh' hset h0 hb hsz hown hnew
    subst hh'
    obtain ⟨hlt, _, _⟩ := Cs.set_spec hset
    have ho : a.base + o < arr.size := by omega
    refine ⟨?_, hR.upd hx ha (by simp) (fun b hb' => heap_setCell_ne hb') hown hnew, by simp, ⟨by simp, rfl, rfl, rfl, fun b hb' => ?_⟩⟩
    · rw [run_store P w _ u _ hu1]
      have hcell : w.cell? ⟨a.blk, a.base + o, none⟩ = some arr[a.base + o] := by simp [World.cell?, hb, ho]
      have hfz : w.frozen? ⟨a.blk, a.base + o, none⟩ = false := by simp [World.frozen?, hb]
      simp [hcell, hfz]
    · refine heap_setCell_ne fun hbb => hb' ?_
      subst hbb
      exact hR.own_T hx ha hown
  obtain ⟨S, r1, _⟩ := id hR
  unfold setCell at hs
  split at hs
  · rename_i e c hx
    split at hs
    · rename_i c' hset
      cases hs
      obtain ⟨a', ha', ho⟩ := r1 i _ hx
      obtain rfl : a' = a := Option.some.inj (ha'.symm.trans ha)
      obtain ⟨h0, hS, arr, hb, hsz, hlim, hcr⟩ := ho
      refine main _ _ c c' e arr hx rfl hset h0 hb (by omega) (fun S' h => h.2.1) fun S' hS' h => ?_
      obtain ⟨_, _, arr', hb', hsz', hlim', hcr'⟩ := h
      rw [hb] at hb'; cases hb'
      refine ⟨h0, hS', _, heap_setCell hb, by simp [hsz, (Cs.set_spec hset).2.1], by rw [(Cs.set_spec hset).2.1]; exact hlim, ?_⟩
      rw [h0, Nat.zero_add]
      exact hcr.set hset (by omega) hv
    · cases hs
  · rename_i e c hx
    split at hs
    · rename_i c' hset
      cases hs
      obtain ⟨a', ha', ho⟩ := r1 i _ hx
      obtain rfl : a' = a := Option.some.inj (ha'.symm.trans ha)
      obtain ⟨h0, hS, arr, hb, hsz, hle, hcr⟩ := ho
      refine main _ _ c c' e arr hx rfl hset h0 hb (by omega) (fun S' h => h.2.1) fun S' hS' h => ?_
      obtain ⟨_, _, arr', hb', hsz', hle', hcr'⟩ := h
      rw [hb] at hb'; cases hb'
      refine ⟨h0, hS', _, heap_setCell hb, by simp [hsz], by rw [(Cs.set_spec hset).2.1]; exact hle, ?_⟩
      rw [h0, Nat.zero_add]
      exact hcr.set hset (by omega) hv
    · cases hs
  · cases hs

def setN (h : Heap) (i : Nat) : Nat → List AV → Option Heap
  | _, [] => some h
  | o, v :: vs => bif oneCell v then (match setCell h i o v with
    | some h' => setN h' i (o + 1) vs
    | none => none) else none

theorem setN_ok {P : Program} {T : Nat → Prop} {ρ : Ren} {i : Nat} {a : Loc} (ha : ρ i = some a) (o : Nat) :
    ∀ (vs : List AV) (us : List Value) (k : Nat) (h h' : Heap) (w : World), Rel h ρ T w → setN h i (o + k) vs = some h' → LRel ρ vs us →
      ∃ w', (storeCells ⟨a.blk, a.base + o, none⟩ us k).run P w = .ok () w' ∧ Rel h' ρ T w' ∧ h'.next = h.next ∧ Keeps T w w'
  | [], us, k, h, h', w, hR, hs, hl => by
    simp [LRel] at hl; subst hl
    simp [setN] at hs; subst hs
    exact ⟨w, by simp [storeCells], hR, rfl, Keeps.refl _ _⟩
  | v :: vs, us, k, h, h', w, hR, hs, hl => by
    simp only [LRel] at hl
    obtain ⟨u, us', rfl, hv, hl'⟩ := hl
    simp only [setN] at hs
    cases h1 : oneCell v with
    | false => rw [h1] at hs; simp at hs
    | true =>
      rw [h1] at hs
      simp only [cond_true] at hs
      split at hs
      · rename_i h2 hset
        obtain ⟨hrun, hR2, hn2, hk2⟩ := setCell_ok (P := P) hR hset ha h1 hv
        obtain ⟨w', hrun', hR', hn', hk'⟩ := setN_ok (P := P) ha o vs us' (k + 1) h2 h' _ hR2 (by rw [← Nat.add_assoc]; exact hs) hl'
        refine ⟨w', ?_, hR', by omega, hk2.trans hk'⟩
        have e : a.base + (o + k) = a.base + o + k := by omega
        rw [e] at hrun hrun'
        simp only [storeCells, Sem.run_bind, add_zero_spot, hrun, Result.andThen_ok, hrun']
      · cases hs

def storeA (tt : TT) (t : TypeId) (a v : AV) (h : Heap) : Option Heap :=
  match a with
  | .ptr i o => match tt t with
    | some ti => match acells v with
      | some cs => bif Nat.beq cs.length ti.size then setN h i o cs else none
      | none => none
    | none => none
  | _ => none

theorem storeA_ok {P : Program} {tt : TT} (hT : tt.ok P) {h h' : Heap} {ρ : Ren} {T : Nat → Prop} {w : World} (hR : Rel h ρ T w) {t : TypeId} {a v : AV} {u x : Value}
    (hl : storeA tt t a v h = some h') (hu : VRel ρ a u) (hx : VRel ρ v x) :
    ∃ w', (Instr.storeAt t u x).run P w = .ok () w' ∧ Rel h' ρ T w' ∧ h'.next = h.next ∧ Keeps T w w' := by
  unfold storeA at hl
  split at hl
  · rename_i i o
    split at hl
    · rename_i ti hti
      split at hl
      · rename_i cs hcs
        cases hb : Nat.beq cs.length ti.size with
        | false => rw [hb] at hl; simp at hl
        | true =>
          rw [hb] at hl
          simp only [cond_true] at hl
          have hlen : cs.length = ti.size := Nat.eq_of_beq_eq_true hb
          simp only [VRel] at hu
          obtain ⟨a, ha, rfl⟩ := hu
          have hlr := acells_spec hcs hx
          obtain ⟨w', hrun, hR', hn, hk⟩ := setN_ok (P := P) ha o cs x.cells.toList 0 h h' w hR hl hlr
          refine ⟨w', ?_, hR', hn, hk⟩
          have : x.cells.size = ti.size := by rw [← Array.length_toList, ← hlr.length, hlen]
          simp only [Instr.storeAt, Instr.sureAddr, Sem.run_bind, Sem.run_pure, Result.andThen_ok, storeVar, run_sizeOf hT hti]
          rw [if_neg (by simpa using this)]
          simp [hrun]
      · cases hl
    · cases hl
  · cases hl

/-! ### New variables -/
theorem Rel.push_cells {h : Heap} {ρ : Ren} {T : Nat → Prop} {w : World} (hR : Rel h ρ T w) {e : TypeId} {c : Cs} {arr : Array Value} (hsz : arr.size = c.size)
    (hc : CRel ρ c arr 0) : ∃ ρ', ρ.le ρ' ∧ ρ' h.next = some ⟨w.heap.size, 0, c.size⟩ ∧ (∀ i, i < h.next → ρ' i = ρ i) ∧ Rel (h.push (.cells e c)) ρ' T (w.alloc (.cells arr e)) ∧
      Keeps T w (w.alloc (.cells arr e)) := by
  have hnew : (w.alloc (.cells arr e)).heap[w.heap.size]? = some (.cells arr e (0, 0)) := by
    show (w.heap.push _)[w.heap.size]? = _
    simp
  obtain ⟨ρ', h1, h2, h3, h4⟩ := hR.push (o := .cells e c) (ob := .cells arr e) c.size ⟨rfl, rfl, arr, hnew, hsz, rfl, hc⟩
  obtain ⟨S, _, _, _, _, h5⟩ := hR
  exact ⟨ρ', h1, h2, h3, h4, Keeps.alloc _ h5⟩

theorem CRel.av {ρ : Ren} {l : List AV} {vs : List Value} (h : LRel ρ l vs) : CRel ρ (.av l) vs.toArray 0 := by
  intro k v hk
  obtain ⟨u, hu, hr⟩ := h.get k v hk
  exact ⟨u, by simpa using hu, hr⟩

/-- A box: a new variable that holds v. -/
def boxA (e : TypeId) (v : AV) (h : Heap) : Option (AV × Heap) :=
  match acells v with
  | some cs => some (h.new (fun n => .ptr n 0) (.cells e (.av cs)))
  | none => none
theorem boxA_ok {P : Program} {h h' : Heap} {ρ : Ren} {T : Nat → Prop} {w : World} (hR : Rel h ρ T w) {e : TypeId} {v r : AV} {u : Value}
    (hb : boxA e v h = some (r, h')) (hu : VRel ρ v u) : XOk P (Instr.box e u) h ρ T w r h' := by
  unfold boxA at hb
  split at hb
  · rename_i cs hcs
    rw [Heap.new_eq] at hb
    cases hb
    have hlr := acells_spec hcs hu
    obtain ⟨ρ', h1, h2, h3, h4, h5⟩ := hR.push_cells (e := e) (c := .av cs) (arr := u.cells) (by rw [← Array.length_toList, ← hlr.length]; rfl) (by simpa using CRel.av hlr)
    refine ⟨.pointer (some ⟨w.heap.size, 0, none⟩), _, ρ', ?_, h3, h1, by simp, h4, by simp only [VRel]; exact ⟨_, h2, rfl⟩, h5⟩
    simp [Instr.box, newVar, newRow]
  · cases hb

/-- Zero cells of a type, few or many. -/
def zeroCs (z : List Value) : Cs := .raw z
def toAV (z : List Value) : List AV := z.map .lit
/-- A new variable with its type's zero value. -/
def allocA (tt : TT) (e : TypeId) (h : Heap) : Option (AV × Heap) :=
  match tt e with
  | some ti => some (h.new (fun n => .ptr n 0) (.cells e (bif Nat.blt 40 ti.zero.length then .tr ti.zero.length (toAV ti.zero) .leaf else .av (toAV ti.zero))))
  | none => none

theorem CRel.tr_leaf {ρ : Ren} {l : List AV} {vs : List Value} (h : LRel ρ l vs) : CRel ρ (.tr l.length l .leaf) vs.toArray 0 := by
  intro k v hk
  simp only [Cs.get, PM.get_leaf] at hk
  cases hb : Nat.blt k l.length with
  | false => rw [hb] at hk; simp at hk
  | true =>
    rw [hb] at hk
    simp only [cond_true] at hk
    have : k < l.length := by simpa using nblt_iff.1 hb
    rw [Nat.mod_eq_of_lt this] at hk
    obtain ⟨u, hu, hr⟩ := h.get k v hk
    exact ⟨u, by simpa using hu, hr⟩

theorem allocA_ok {P : Program} {tt : TT} (hT : tt.ok P) {h h' : Heap} {ρ : Ren} {T : Nat → Prop} {w : World} (hR : Rel h ρ T w) {e : TypeId} {r : AV}
    (hb : allocA tt e h = some (r, h')) : XOk P (Instr.alloc e true (.tuple #[])) h ρ T w r h' := by
  unfold allocA at hb
  split at hb
  · rename_i ti hti
    rw [Heap.new_eq] at hb
    cases hb
    obtain ⟨z, hz, hzc⟩ := run_zeroValue (P := P) hT hti w
    have hlr : LRel ρ (toAV ti.zero) z.cells.toList := by rw [hzc]; exact LRel.lits _
    have hsz : z.cells.size = ti.zero.length := by rw [← Array.length_toList, hzc]
    have hl : (toAV ti.zero).length = ti.zero.length := by simp [toAV]
    obtain ⟨ρ', h1, h2, h3, h4, h5⟩ := hR.push_cells (e := e) (c := bif Nat.blt 40 ti.zero.length then .tr ti.zero.length (toAV ti.zero) .leaf else .av (toAV ti.zero)) (arr := z.cells)
      (by cases Nat.blt 40 ti.zero.length <;> simp [Cs.size, hsz, hl])
      (by
        cases Nat.blt 40 ti.zero.length with
        | false => simpa using CRel.av hlr
        | true => have := CRel.tr_leaf hlr; rw [hl] at this; simpa using this)
    refine ⟨.pointer (some ⟨w.heap.size, 0, none⟩), _, ρ', ?_, h3, h1, by simp, h4, by simp only [VRel]; exact ⟨_, h2, rfl⟩, h5⟩
    simp [Instr.alloc, hz, newVar, newRow]
  · cases hb
end Go.Proofs.YtpbdlibgbkhlhaaGreat.SE
