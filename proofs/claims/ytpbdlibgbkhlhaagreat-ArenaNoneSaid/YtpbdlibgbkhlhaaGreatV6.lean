/- What is asked of an operation depends on its operands alone. -/
import Derived.Test.YtpbdlibgbkhlhaaGreatV5
namespace Go.Proofs.YtpbdlibgbkhlhaaGreat.SE
open Go

/-! ### Operands alone -/
theorem map_congr {ev ev' : Operand → AV} : ∀ {l : List Operand}, (∀ x ∈ l, ev x = ev' x) → l.map ev = l.map ev' := fun h => List.map_congr_left h
theorem mapO_congr {ev ev' : Operand → AV} {o : Option Operand} (h : ∀ x ∈ o, ev x = ev' x) : mapO ev o = mapO ev' o := by
  cases o with
  | none => rfl
  | some x => simp only [mapO]; rw [h x rfl]
theorem opN_congr {tt : TT} {op : Op} {ev ev' : Operand → AV} (h : ∀ x ∈ op.operands, ev x = ev' x) : opN tt op ev = opN tt op ev' := by
  cases op <;> simp only [opN] <;> simp [Op.operands] at h
  case move x => rw [h]
  case assign x => rw [h]
  case pick c a b => rw [h.1, h.2.1, h.2.2]
  case nilCheck x => rw [h]
  case binOp o t x y yt => rw [h.1, h.2]
  case unOp o t x => rw [h]
  case convert s d x => rw [h]
  case makeFunc f a b => rw [map_congr fun x hx => h x (.inl (by simpa using hx)), map_congr fun x hx => h x (.inr (by simpa using hx))]
  case slice t x lo hi mx =>
    rw [h.1, mapO_congr fun y hy => h.2 y (.inl hy), mapO_congr (o := hi) fun y hy => h.2 y (.inr (.inl hy)), mapO_congr (o := mx) fun y hy => h.2 y (.inr (.inr hy))]
  case fieldAddr s x f => rw [h]
  case field s x f => rw [h]
  case indexAddr t x i => rw [h.1, h.2]
  case index t x i => rw [h.1, h.2]
  case extract x i => rw [h]
  case build t ps =>
    have : (ps.toList.map fun p => (p.1, ev p.2)) = ps.toList.map fun p => (p.1, ev' p.2) := List.map_congr_left fun p hp => by rw [h p.2 p.1 (by simpa using hp)]
    rw [this]
  case call c =>
    have : c.args.toList.map ev = c.args.toList.map ev' := map_congr fun x hx => h x (by simp [Call.operands]; exact .inr (by simpa using hx))
    rw [this]
theorem vN_congr {tt : TT} {op : Op} {ev ev' : Operand → AV} {hp : Heap} {Q : AV → Prop} (h : ∀ x ∈ op.operands, ev x = ev' x) : vN tt op ev hp Q = vN tt op ev' hp Q := by
  have := opN_congr (tt := tt) h
  cases op <;> simp only [vN] <;> simp [Op.operands] at h <;> try rw [this]
  case pick c a b => rw [h.1, h.2.1, h.2.2]
  case binOp o t x y yt => rw [h.1, h.2]
  case convert s d x => rw [h]
  case slice t x lo hi mx =>
    rw [h.1, mapO_congr fun y hy => h.2 y (.inl hy), mapO_congr (o := hi) fun y hy => h.2 y (.inr (.inl hy)), mapO_congr (o := mx) fun y hy => h.2 y (.inr (.inr hy))]
  case fieldAddr s x f => rw [h]
  case indexAddr t x i => rw [h.1, h.2]
  case index t x i => rw [h.1, h.2]
theorem opX_congr {tt : TT} {op : Op} {ev ev' : Operand → AV} {hp : Heap} (h : ∀ x ∈ op.operands, ev x = ev' x) : opX false tt op ev hp = opX false tt op ev' hp := by
  cases op <;> simp only [opX] <;> simp [Op.operands] at h
  case box e x => rw [h]
  case store t a x => rw [h.1, h.2]
  case makeSlice t l c => rw [h.1, h.2]
  case buildSlice t n ps =>
    have : (ps.toList.map fun p => (p.1, ev p.2)) = ps.toList.map fun p => (p.1, ev' p.2) := List.map_congr_left fun p hp => by rw [h p.2 p.1 (by simpa using hp)]
    rw [this]
  case call c =>
    have : c.args.toList.map ev = c.args.toList.map ev' := map_congr fun x hx => h x (by simp [Call.operands]; exact .inr (by simpa using hx))
    rw [this]
theorem vX_congr {tt : TT} {op : Op} {ev ev' : Operand → AV} {hp : Heap} {Q : AV → Heap → Prop} (h : ∀ x ∈ op.operands, ev x = ev' x) : vX tt op ev hp Q = vX tt op ev' hp Q := by
  have e1 := fun (Q : AV → Prop) => vN_congr (tt := tt) (hp := hp) (Q := Q) h
  have e2 := opX_congr (tt := tt) (hp := hp) h
  cases op <;> simp only [vX] <;> try rw [e1, e2]
  case load t x => simp [Op.operands] at h; rw [h]
  case store t a x => simp [Op.operands] at h; rw [h.1, h.2]
  case makeSlice t l c => simp [Op.operands] at h; rw [h.1, h.2]
  case insert t m k x => simp [Op.operands] at h; rw [h.1, h.2.1, h.2.2]
  case mapUpdate t m k x => simp [Op.operands] at h; rw [h.1, h.2.1, h.2.2]
  case lookup t m k ok => simp [Op.operands] at h; rw [h.1, h.2]
  case call c =>
    have : c.args.toList.map ev = c.args.toList.map ev' := map_congr fun x hx => h x (by simp [Op.operands, Call.operands]; exact .inr (by simpa using hx))
    rw [this]
    first | done | (split <;> first | rfl | rw [e1, e2])
end Go.Proofs.YtpbdlibgbkhlhaaGreat.SE
