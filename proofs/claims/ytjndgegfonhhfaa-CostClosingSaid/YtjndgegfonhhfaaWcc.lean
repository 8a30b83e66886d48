import Derived.Test.YtjndgegfonhhfaaWca
import Derived.Test.YtjndgegfonhhfaaWcb
import Derived.MapKept
set_option linter.unusedVariables false
set_option linter.unusedSimpArgs false
set_option linter.unnecessarySimpa false
section
/- Maps whose keys are told. -/
namespace Go.Proofs.Ytjndgegfonhhfaa.SE
open Go

def sameK : Value → Value → Option Bool
  | .int k a, .int k' b => if k = k' then some (a == b) else none
  | .string a, .string b => some (a == b)
  | _, _ => none
def keyFits : TD → Value → Bool
  | .int k, .int k' _ => if k' = k then true else false
  | .string, .string _ => true
  | _, _ => false
/-- The value as one of its type. -/
def avOf : Value → AV
  | .agg cs => .agg (toAV cs.toList)
  | v => .lit v
theorem avOf_rel (ρ : Ren) (z : Value) : VRel ρ (avOf z) z := by
  cases z with
  | agg cs => simp only [avOf, VRel]; exact ⟨cs, rfl, LRel.lits _⟩
  | _ => simp only [avOf, VRel]
def vFind (key : Value) : List (AV × AV × Nat) → Nat → (Option (Nat × AV) → Prop) → Prop
  | [], _, Q => Q none
  | (.lit u, v, _) :: r, i, Q => match sameK key u with
    | some b => cP b (Q (some (i, v))) (vFind key r (i + 1) Q)
    | none => False
  | _ :: _, _, _ => False
theorem keyFits_isKey {P : Program} {t : TypeId} {d : TypeDesc} {td : TD} {key : Value} (hd : mkTD P t d = td) (h : keyFits td key = true) : MapKept.IsKey d key := by
  cases td <;> cases key <;> simp [keyFits] at h
  · rw [mkTD_string hd]; trivial
  · rw [mkTD_int hd]; exact h
theorem sameK_now {P : Program} {t : TypeId} {d : TypeDesc} {td : TD} {key u : Value} {b : Bool} (hd : mkTD P t d = td) (h : keyFits td key = true) (hs : sameK key u = some b) : Instr.sameNow d key u = some b ∧ (b = true → key = u) := by
  cases td <;> cases key <;> simp [keyFits] at h
  · cases u <;> simp [sameK] at hs
    rename_i x y
    rw [mkTD_string hd]
    refine ⟨by simp [Instr.sameNow, hs], fun hb => ?_⟩
    subst hb
    have : x = y := (MapKept.bytes_beq x y).1 hs
    rw [this]
  · cases u <;> simp [sameK] at hs
    rename_i k1 a k2 b'
    rw [mkTD_int hd]
    refine ⟨by simp [Instr.sameNow, hs], fun hb => ?_⟩
    subst hb
    obtain ⟨h1, h2⟩ := hs
    have h2 : a = b' := by simpa using h2
    rw [h1, h2]
theorem vFind_ok {P : Program} {ρ : Ren} {t : TypeId} {d : TypeDesc} {td : TD} {key : Value} {Q : Option (Nat × AV) → Prop} (hd : mkTD P t d = td) (hk : keyFits td key = true) : ∀ {es : List (AV × AV × Nat)} {arr : List MapEntry} {i : Nat}, MRel ρ es arr → vFind key es i Q →
    (Instr.findNow d key arr i = some none ∧ Q none) ∨ ∃ j v u e, Instr.findNow d key arr i = some (some (i + j, u)) ∧ VRel ρ v u ∧ Q (some (i + j, v)) ∧ arr[j]? = some e ∧ e.key = key
  | [], arr, i, hm, hq => by
    simp only [MRel] at hm; subst hm
    exact .inl ⟨rfl, hq⟩
  | (kk, v, b) :: r, arr, i, hm, hq => by
    simp only [MRel] at hm
    obtain ⟨e, arr', rfl, h1, h2, _, h4⟩ := hm
    cases kk <;> simp only [vFind] at hq
    rename_i u
    split at hq
    · rename_i bb hb
      simp only [VRel] at h1
      obtain ⟨g1, g2⟩ := sameK_now hd hk hb
      rw [← h1] at g1
      rcases cP_elim hq with ⟨rfl, hq⟩ | ⟨rfl, hq⟩
      · refine .inr ⟨0, v, e.val, e, ?_, h2, hq, rfl, by rw [h1, g2 rfl]⟩
        simp [Instr.findNow, g1]
      · rcases vFind_ok hd hk h4 hq with ⟨q1, q2⟩ | ⟨j, v', u', e', q1, q2, q3, q4, q5⟩
        · exact .inl ⟨by simp [Instr.findNow, g1, q1], q2⟩
        · refine .inr ⟨j + 1, v', u', e', ?_, q2, by rw [show i + (j + 1) = i + 1 + j by omega]; exact q3, by simpa using q4, q5⟩
          simp [Instr.findNow, g1, q1]; omega
    · exact hq.elim

theorem MRel.app {ρ : Ren} : ∀ {es : List (AV × AV × Nat)} {arr : List MapEntry} {x : AV × AV × Nat} {e : MapEntry}, MRel ρ es arr → VRel ρ x.1 e.key → VRel ρ x.2.1 e.val → e.born = x.2.2 → MRel ρ (es ++ [x]) (arr ++ [e])
  | [], arr, x, e, hm, h1, h2, h3 => by simp only [MRel] at hm; subst hm; exact ⟨e, [], rfl, h1, h2, h3, rfl⟩
  | y :: es, arr, x, e, hm, h1, h2, h3 => by
    simp only [MRel] at hm
    obtain ⟨e0, arr', rfl, g1, g2, g3, g4⟩ := hm
    exact ⟨e0, arr' ++ [e], rfl, g1, g2, g3, g4.app h1 h2 h3⟩
theorem MRel.modify {ρ : Ren} {key val : Value} {v : AV} (hv : VRel ρ v val) : ∀ {es : List (AV × AV × Nat)} {arr : List MapEntry} {j : Nat}, MRel ρ es arr → MRel ρ (es.modify j fun x => (.lit key, v, x.2.2)) (arr.modify j fun e => { e with key := key, val := val })
  | [], arr, j, hm => by simp only [MRel] at hm; subst hm; simp [MRel]
  | y :: es, arr, 0, hm => by
    simp only [MRel] at hm
    obtain ⟨e0, arr', rfl, g1, g2, g3, g4⟩ := hm
    exact ⟨{ e0 with key := key, val := val }, arr', rfl, by simp only [VRel], hv, g3, g4⟩
  | y :: es, arr, j + 1, hm => by
    simp only [MRel] at hm
    obtain ⟨e0, arr', rfl, g1, g2, g3, g4⟩ := hm
    exact ⟨e0, _, rfl, g1, g2, g3, g4.modify hv⟩
theorem MRel.length {ρ : Ren} : ∀ {es : List (AV × AV × Nat)} {arr : List MapEntry}, MRel ρ es arr → arr.length = es.length
  | [], arr, hm => by simp only [MRel] at hm; subst hm; rfl
  | y :: es, arr, hm => by
    simp only [MRel] at hm
    obtain ⟨e0, arr', rfl, g1, g2, g3, g4⟩ := hm
    simp [g4.length]

/-- The map that lies there. -/
theorem Rel.mapAt {h : Heap} {ρ : Ren} {T : Nat → Prop} {w : World} (hR : Rel h ρ T w) {i : Nat} {es : List (AV × AV × Nat)} {clk : Nat} (hi : h.get i = some (.map es clk)) :
    ∃ a arr, ρ i = some a ∧ w.heap[a.blk]? = some (.map arr clk) ∧ MRel ρ es arr.toList ∧ T a.blk := by
  obtain ⟨S, h1, h2, h3, h4, h5⟩ := hR
  obtain ⟨a, ha, hS, arr, hb, hm⟩ := h1 i _ hi
  exact ⟨a, arr, ha, hb, hm, (h3 i _ _ hi hS).1⟩
theorem Rel.mapSet {h : Heap} {ρ : Ren} {T : Nat → Prop} {w : World} (hR : Rel h ρ T w) {i : Nat} {es es' : List (AV × AV × Nat)} {clk clk' : Nat} {a : Loc} {arr arr' : Array MapEntry} (hi : h.get i = some (.map es clk)) (ha : ρ i = some a)
    (hb : w.heap[a.blk]? = some (.map arr clk)) (hT : T a.blk) (hm : MRel ρ es' arr'.toList) : Rel (h.set i (.map es' clk')) ρ T { w with heap := w.heap.setIfInBounds a.blk (.map arr' clk') } ∧ Keeps T w { w with heap := w.heap.setIfInBounds a.blk (.map arr' clk') } := by
  have hne : ∀ b, b ≠ a.blk → (w.heap.setIfInBounds a.blk (.map arr' clk'))[b]? = w.heap[b]? := fun b hb => by
    rw [Array.getElem?_setIfInBounds]; rw [if_neg (Ne.symm hb)]
  have hlt : a.blk < w.heap.size := (Array.getElem?_eq_some_iff.1 hb).1
  refine ⟨hR.upd (o := .map es clk) hi ha (by simp) hne (fun S hS => hS.1) (fun S hS _ => ⟨hS, arr', ?_, hm⟩), by simp, rfl, rfl, rfl, fun b hb => hne b fun h => hb (h ▸ hT)⟩
  show (w.heap.setIfInBounds a.blk _)[a.blk]? = _
  simp [hlt]

/-! ### Operations -/
def vMakeMap (tt : TT) (t : TypeId) (hint : Bool) (h : Heap) (Q : AV → Heap → Prop) : Prop := bif hint then False else
  match tt t with
  | some ti => match ti.desc with
    | .map _ _ => Q (.mp h.next) (h.push (.map [] 0))
    | _ => False
  | none => False
theorem vMakeMap_ok {P : Program} {tt : TT} {h : Heap} {ρ : Ren} {T : Nat → Prop} {w : World} (hR : Rel h ρ T w) {t : TypeId} {o : Option Value} {Q : AV → Heap → Prop} (hq : vMakeMap tt t o.isSome h Q) : XQ P (Instr.makeMap t o) h ρ T w Q := by
  cases o with
  | some x => simp [vMakeMap] at hq
  | none =>
    simp only [vMakeMap, Option.isSome_none, cond_false] at hq
    split at hq
    · split at hq
      · obtain ⟨ρ', h1, h2, h3, h4⟩ := hR.push (o := .map [] 0) (ob := .map #[] 0) 0 ⟨rfl, #[], by show (w.heap.push _)[w.heap.size]? = _; simp, rfl⟩
        obtain ⟨_, _, _, _, _, h5⟩ := hR
        refine ⟨_, _, ⟨.map (some w.heap.size), w.alloc (.map #[] 0), ρ', ?_, h3, h1, by simp, h4, by simp only [VRel]; exact ⟨_, h2, rfl⟩, Keeps.alloc _ h5⟩, hq⟩
        rfl
      · exact hq.elim
    · exact hq.elim
def mapTy (tt : TT) (t : TypeId) : Option (TI × TI) := match tt t with
  | some ti => match ti.desc with
    | .map kt et => match tt kt, tt et with
      | some tk, some te => some (tk, te)
      | _, _ => none
    | _ => none
  | none => none
theorem mapTy_ok {P : Program} {tt : TT} (hT : tt.ok P) {t : TypeId} {tk te : TI} (h : mapTy tt t = some (tk, te)) : ∃ kt et d, P.underlying t = some (.map kt et) ∧ P.underlying kt = some d ∧ mkTD P kt d = tk.desc ∧ tt et = some te := by
  unfold mapTy at h
  split at h
  · rename_i ti hti
    split at h
    · rename_i kt et hd
      split at h
      · rename_i tk' te' h1 h2
        cases h
        obtain ⟨_, d, _, _, hu, _, _, _, _, hm⟩ := hT.info hti
        obtain ⟨_, d2, _, _, hu2, _, _, _, _, hm2⟩ := hT.info h1
        rw [hd] at hm
        rw [mkTD_map hm] at hu
        exact ⟨kt, et, d2, hu, hu2, hm2, h2⟩
      · cases h
    · cases h
  · cases h
def vMapPut (tt : TT) (t : TypeId) (m k v : AV) (h : Heap) (Q : Heap → Prop) : Prop :=
  match mapTy tt t, m, k with
  | some (tk, _), .mp i, .lit key => match h.get i with
    | some (.map es clk) => bif keyFits tk.desc key then vFind key es 0 fun
        | none => Q (h.set i (.map (es ++ [(.lit key, v, clk)]) (clk + 1)))
        | some (j, _) => Q (h.set i (.map (es.modify j fun x => (.lit key, v, x.2.2)) clk)) else False
    | _ => False
  | _, _, _ => False
theorem sameBits_same {P : Program} {t : TypeId} {d : TypeDesc} {td : TD} {key : Value} (hd : mkTD P t d = td) (h : keyFits td key = true) : Instr.sameBits 10000 key key = true := by
  cases td <;> cases key <;> simp [keyFits] at h <;> simp [Instr.sameBits, MapKept.bytes_beq]
theorem run_undr {P : Program} {t : TypeId} {d : TypeDesc} (h : P.underlying t = some d) (w : World) : (underlying t).run P w = .ok d w := by simp [underlying, h]
theorem vMapPut_ok {P : Program} {tt : TT} (hT : tt.ok P) {h : Heap} {ρ : Ren} {T : Nat → Prop} {w : World} (hR : Rel h ρ T w) {t : TypeId} {m k v : AV} {um uk uv : Value} {Q : Heap → Prop} (hq : vMapPut tt t m k v h Q)
    (hm : VRel ρ m um) (hk : VRel ρ k uk) (hv : VRel ρ v uv) : ∃ w' h', (Instr.mapUpdate t um uk uv).run P w = .ok () w' ∧ Rel h' ρ T w' ∧ h'.next = h.next ∧ Keeps T w w' ∧ Q h' := by
  unfold vMapPut at hq
  split at hq
  · rename_i tk te i key hty
    obtain ⟨kt, et, d, h1, h2, h3, h4⟩ := mapTy_ok hT hty
    simp only [VRel] at hk; subst hk
    simp only [VRel] at hm
    obtain ⟨a0, ha0, rfl⟩ := hm
    split at hq
    · rename_i es clk hi
      cases hkf : keyFits tk.desc uk with
      | false => rw [hkf] at hq; exact hq.elim
      | true =>
        rw [hkf] at hq; simp only [cond_true] at hq
        obtain ⟨a, arr, ha, hb, hmr, hTa⟩ := hR.mapAt hi
        obtain rfl : a = a0 := Option.some.inj (ha.symm.trans ha0)
        have hck := MapKept.run_checkKey (w := w) h2 (keyFits_isKey h3 hkf) false 9999
        rcases vFind_ok h3 hkf hmr hq with ⟨q1, q2⟩ | ⟨j, v', u, e, q1, q2, q3, q4, q5⟩
        · obtain ⟨r1, r2⟩ := hR.mapSet (es' := es ++ [(.lit uk, v, clk)]) (clk' := clk + 1) (arr' := arr.push { key := uk, val := uv, born := clk }) hi ha hb hTa (by
            rw [Array.toList_push]; exact hmr.app (by simp only [VRel]) hv rfl)
          refine ⟨_, _, ?_, r1, by simp, r2, q2⟩
          simp [Instr.mapUpdate, run_undr h1, MapKept.run_getObj_map hb, hck, MapKept.run_findKey h2 q1, MapKept.run_setObj_map _ hb]
        · rw [Nat.zero_add] at q1 q3
          obtain ⟨r1, r2⟩ := hR.mapSet (es' := es.modify j fun x => (.lit uk, v, x.2.2)) (clk' := clk) (arr' := arr.modify j fun e => { e with key := uk, val := uv }) hi ha hb hTa (by
            rw [Array.toList_modify]; exact hmr.modify hv)
          refine ⟨_, _, ?_, r1, by simp, r2, q3⟩
          have hj : arr[j]? = some e := by rw [← Array.getElem?_toList]; exact q4
          simp [Instr.mapUpdate, run_undr h1, MapKept.run_getObj_map hb, hck, MapKept.run_findKey h2 q1, MapKept.run_setObj_map _ hb, hj, q5, Instr.keyThatStays, sameBits_same h3 hkf]
    · exact hq.elim
  · exact hq.elim
def okV (ok : Bool) (v : AV) (b : Bool) : AV := bif ok then .tup [v, .lit (.bool b)] else v
def vLookup (tt : TT) (t : TypeId) (x k : AV) (ok : Bool) (h : Heap) (Q : AV → Prop) : Prop :=
  match mapTy tt t, k with
  | some (tk, te), .lit key => bif keyFits tk.desc key then (match x with
    | .lit (.map none) => Q (okV ok (avOf te.zv) false)
    | .mp i => match h.get i with
      | some (.map es _) => vFind key es 0 fun
        | none => Q (okV ok (avOf te.zv) false)
        | some (_, v) => Q (okV ok v true)
      | _ => False
    | _ => False) else False
  | _, _ => False
theorem okV_rel {ρ : Ren} {ok b : Bool} {v : AV} {u : Value} (h : VRel ρ v u) : VRel ρ (okV ok v b) (if ok then .tuple #[u, .bool b] else u) := by
  cases ok with
  | false => exact h
  | true =>
    simp only [okV, cond_true, if_true, VRel]
    exact ⟨_, rfl, .cons h (.cons (by simp only [VRel]) .nil)⟩
theorem vLookup_ok {P : Program} {tt : TT} (hT : tt.ok P) {h : Heap} {ρ : Ren} {T : Nat → Prop} {w : World} (hR : Rel h ρ T w) {t : TypeId} {x k : AV} {ok : Bool} {ux uk : Value} {Q : AV → Prop} (hq : vLookup tt t x k ok h Q)
    (hx : VRel ρ x ux) (hk : VRel ρ k uk) : ∃ v, ROk P (Instr.lookup t ux uk ok) ρ w v ∧ Q v := by
  unfold vLookup at hq
  split at hq
  · rename_i tk te key hty
    obtain ⟨kt, et, d, h1, h2, h3, h4⟩ := mapTy_ok hT hty
    simp only [VRel] at hk; subst hk
    cases hkf : keyFits tk.desc uk with
    | false => rw [hkf] at hq; exact hq.elim
    | true =>
      rw [hkf] at hq; simp only [cond_true] at hq
      have hck := fun b => MapKept.run_checkKey (w := w) h2 (keyFits_isKey h3 hkf) b 9999
      have hz := run_zeroV (P := P) hT h4 w
      split at hq
      · simp only [VRel] at hx; subst hx
        have hf : Instr.findNow d uk [] 0 = some none := rfl
        refine ⟨_, ⟨_, ?_, okV_rel (avOf_rel ρ te.zv)⟩, hq⟩
        simp [Instr.lookup, run_undr h1, hck, MapKept.run_findKey h2 hf, hz]
      · rename_i i
        simp only [VRel] at hx
        obtain ⟨a0, ha0, rfl⟩ := hx
        split at hq
        · rename_i es clk hi
          obtain ⟨a, arr, ha, hb, hmr, hTa⟩ := hR.mapAt hi
          obtain rfl : a = a0 := Option.some.inj (ha.symm.trans ha0)
          rcases vFind_ok h3 hkf hmr hq with ⟨q1, q2⟩ | ⟨j, v', u, e, q1, q2, q3, q4, q5⟩
          · refine ⟨_, ⟨_, ?_, okV_rel (avOf_rel ρ te.zv)⟩, q2⟩
            simp [Instr.lookup, run_undr h1, MapKept.run_getObj_map hb, hck, MapKept.run_findKey h2 q1, hz]
          · refine ⟨_, ⟨_, ?_, okV_rel q2⟩, q3⟩
            simp [Instr.lookup, run_undr h1, MapKept.run_getObj_map hb, hck, MapKept.run_findKey h2 q1]
        · exact hq.elim
      · exact hq.elim
  · exact hq.elim
end Go.Proofs.Ytjndgegfonhhfaa.SE
end
