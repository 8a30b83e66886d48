/- append, copy, make and literals of slices: what they do. -/
import Derived.Test.YtpbdlibgbkhlhaaGreatE7
namespace Go.Proofs.YtpbdlibgbkhlhaaGreat.SE
open Go

theorem Rel.move {h : Heap} {ρ : Ren} {T : Nat → Prop} {w : World} (hR : Rel h ρ T w) {i : Nat} {o : AObj} {a : Loc} (hi : h.get i = some o) (ha : ρ i = some a) :
    ∃ ρ', ρ.le ρ' ∧ ρ' h.next = some a ∧ (∀ i, i < h.next → ρ' i = ρ i) ∧ Rel ((h.drop i).push o) ρ' T w := by
  obtain ⟨S, h1, h2, h3, h4, h5⟩ := hR
  have hin : i < h.next := by
    rcases Nat.lt_or_ge i h.next with h' | h'
    · exact h'
    · rw [h4 i h'] at ha; cases ha
  let ρ' : Ren := fun j => if j = h.next then some a else ρ j
  have hle : ρ.le ρ' := fun j b hb => by
    by_cases hj : j = h.next
    · rw [hj, h4 h.next (Nat.le_refl _)] at hb; cases hb
    · simp [ρ', hj, hb]
  refine ⟨ρ', hle, by simp [ρ'], fun j hj => by simp [ρ', Nat.ne_of_lt hj], fun j => if j = h.next then S i else S j, fun j x hj => ?_, fun j k x y b hj hk hjk hSj hSk => ?_, fun j x b hj hSj => ?_, fun j hj => ?_, h5⟩
  · rw [Heap.get_push] at hj
    by_cases hjn : j = h.next
    · rw [if_pos (by simpa using hjn)] at hj; cases hj
      obtain ⟨a', ha', ho⟩ := h1 i o hi
      obtain rfl : a' = a := Option.some.inj (ha'.symm.trans ha)
      refine ⟨a', by simp [ρ', hjn], ?_⟩
      simp only [if_pos hjn]
      exact ho.mono hle
    · rw [if_neg (by simpa using hjn), Heap.get_drop] at hj
      split at hj
      · cases hj
      · obtain ⟨b, hb, hx⟩ := h1 j x hj
        refine ⟨b, hle _ _ hb, ?_⟩
        simp only [if_neg hjn]
        exact hx.mono hle
  · have get : ∀ j x, ((h.drop i).push o).get j = some x → (j = h.next ∧ x = o) ∨ (j ≠ h.next ∧ j ≠ i ∧ h.get j = some x) := fun j x hj => by
      rw [Heap.get_push] at hj
      by_cases hjn : j = h.next
      · rw [if_pos (by simpa using hjn)] at hj; cases hj; exact .inl ⟨hjn, rfl⟩
      · rw [if_neg (by simpa using hjn), Heap.get_drop] at hj
        split at hj
        · cases hj
        · rename_i hji; exact .inr ⟨hjn, hji, hj⟩
    rcases get j x hj with ⟨hjn, rfl⟩ | ⟨hjn, hji, hjx⟩
    · rcases get k y hk with ⟨hkn, _⟩ | ⟨hkn, hki, hky⟩
      · exact hjk (hjn.trans hkn.symm)
      · simp only [if_pos hjn] at hSj; simp only [if_neg hkn] at hSk
        exact h2 i k x y b hi hky (Ne.symm hki) hSj hSk
    · rcases get k y hk with ⟨hkn, rfl⟩ | ⟨hkn, hki, hky⟩
      · simp only [if_neg hjn] at hSj; simp only [if_pos hkn] at hSk
        exact h2 j i x y b hjx hi hji hSj hSk
      · simp only [if_neg hjn] at hSj; simp only [if_neg hkn] at hSk
        exact h2 j k x y b hjx hky hjk hSj hSk
  · rw [Heap.get_push] at hj
    by_cases hjn : j = h.next
    · simp only [if_pos hjn] at hSj; exact h3 i o b hi hSj
    · simp only [if_neg hjn] at hSj
      rw [if_neg (by simpa using hjn), Heap.get_drop] at hj
      split at hj
      · cases hj
      · exact h3 j x b hj hSj
  · have hj' : h.next + 1 ≤ j := by simpa using hj
    have : j ≠ h.next := by omega
    simp only [ρ', if_neg this]
    exact h4 j (by omega)

theorem Rel.push_room {h : Heap} {ρ : Ren} {T : Nat → Prop} {w : World} (hR : Rel h ρ T w) {e : TypeId} {c : Cs} {arr : Array Value} (hsz : c.size ≤ arr.size)
    (hc : CRel ρ c arr 0) : ∃ ρ', ρ.le ρ' ∧ ρ' h.next = some ⟨w.heap.size, 0, arr.size⟩ ∧ (∀ i, i < h.next → ρ' i = ρ i) ∧ Rel (h.push (.room e c)) ρ' T (w.alloc (.cells arr e)) ∧
      Keeps T w (w.alloc (.cells arr e)) := by
  have hnew : (w.alloc (.cells arr e)).heap[w.heap.size]? = some (.cells arr e (0, 0)) := by
    show (w.heap.push _)[w.heap.size]? = _
    simp
  obtain ⟨ρ', h1, h2, h3, h4⟩ := hR.push (o := .room e c) (ob := .cells arr e) arr.size ⟨rfl, rfl, arr, hnew, rfl, hsz, hc⟩
  obtain ⟨S, _, _, _, _, h5⟩ := hR
  exact ⟨ρ', h1, h2, h3, h4, Keeps.alloc _ h5⟩

/-! ### append -/
def lenA : AV → Option Nat
  | .sl _ _ n _ => some n
  | .slU _ _ n _ => some n
  | .lit (.slice none 0 _) => some 0
  | .lit (.string s) => some s.size
  | _ => none
theorem lenA_ok {P : Program} {ρ : Ren} {x : AV} {u : Value} {n : Nat} (h : lenA x = some n) (hu : VRel ρ x u) (w : World) : (Builtin.lenOf u).run P w = .ok n w := by
  unfold lenA at h
  split at h
  · cases h; simp only [VRel] at hu; obtain ⟨a, _, rfl⟩ := hu; simp [Builtin.lenOf]
  · cases h; simp only [VRel] at hu; obtain ⟨a, _, _, rfl, _⟩ := hu; simp [Builtin.lenOf]
  · cases h; simp only [VRel] at hu; subst hu; simp [Builtin.lenOf]
  · cases h; simp only [VRel] at hu; subst hu; simp [Builtin.lenOf]
  · cases h

def isIntD : TD → Bool
  | .int _ => true
  | _ => false

def appendA (tt : TT) (t xt : TypeId) (s x : AV) (h : Heap) : Option (AV × Heap) :=
  match tt t, tt xt, lenA x with
  | some ti, some tx, some n => bif isIntD tx.desc then none else (match ti.desc with
    | .slice e => match tt e with
      | some te => bif Nat.beq te.bytes 0 || !Nat.beq te.zero.length te.size then none else (match segOf h x n te.size with
        | some d => match s with
          | .lit (.slice none 0 0) => if n = 0 then some (.lit (.slice none 0 0), h) else
              bif Nat.ble ((2 * n + 1000) * te.bytes) (2 ^ 48) && oneCells d then some (h.new (fun k => .slU k 0 n te.size) (.room e d)) else none
          | .sl i o sn sc => if sn + n ≤ sc then (if n = 0 then some (.sl i o sn sc, h) else bif oneCells d then (match putSeg h i (o + sn * te.size) d with
                | some h' => some (.sl i o (sn + n) sc, h')
                | none => none) else none) else
              bif Nat.ble ((2 * (sn + n) + 1000) * te.bytes) (2 ^ 48) then (match segOf h s sn te.size with
                | some c => match c.app d with
                  | some c' => some (h.new (fun k => .slU k 0 (sn + n) te.size) (.room e c'))
                  | none => none
                | none => none) else none
          | .slU i 0 sn sz => match h.get i with
            | some (.room e' c) => bif Nat.beq sz te.size && Nat.beq c.size (sn * te.size) && Nat.beq e' e && Nat.ble ((2 * (sn + n) + 1000) * te.bytes) (2 ^ 48) && oneCells d then (match c.app d with
                | some c' => some ((h.drop i).new (fun k => .slU k 0 (sn + n) te.size) (.room e c'))
                | none => none) else none
            | _ => none
          | _ => none
        | none => none)
      | none => none
    | _ => none)
  | _, _, _ => none

theorem growBy_le (L : Nat) : ∀ (r c : Nat), c < L → Builtin.growBy L r c ≤ 2 * L + 192
  | 0, c, h => by simp [Builtin.growBy]; omega
  | r + 1, c, h => by
    simp only [Builtin.growBy]
    rw [if_neg (by omega)]
    by_cases h2 : c + (c + 768) / 4 < L
    · exact growBy_le L r _ h2
    · cases r with
      | zero => simp [Builtin.growBy]; omega
      | succ r => simp only [Builtin.growBy]; rw [if_pos (by omega)]; omega
theorem nextslicecap_le {L c : Nat} (h : c < L) : Builtin.nextslicecap L c ≤ 2 * L + 1000 := by
  unfold Builtin.nextslicecap
  split
  · omega
  · split
    · omega
    · have := growBy_le L 4 c h; omega

theorem CRel.app {ρ : Ren} {c d e : Cs} {us vs : Array Value} {rest : Array Value} (h : c.app d = some e) (hc : CRel ρ c us 0) (hd : CRel ρ d vs 0) (hus : us.size = c.size) (hvs : vs.size = d.size) :
    CRel ρ e (us ++ vs ++ rest) 0 := by
  obtain ⟨hsz, h1, h2⟩ := Cs.app_spec h
  intro k v hk
  have hlt := Cs.get_lt hk
  simp only [Nat.zero_add]
  by_cases hkc : k < c.size
  · rw [h1 k hkc] at hk
    obtain ⟨u, hu, hr⟩ := hc _ _ hk
    refine ⟨u, ?_, hr⟩
    rw [Array.getElem?_append_left (by simp; omega), Array.getElem?_append_left (by omega)]
    simpa using hu
  · obtain ⟨j, rfl⟩ : ∃ j, k = c.size + j := ⟨k - c.size, by omega⟩
    rw [h2] at hk
    obtain ⟨u, hu, hr⟩ := hd _ _ hk
    have hj := Cs.get_lt hk
    refine ⟨u, ?_, hr⟩
    rw [Array.getElem?_append_left (by simp; omega), Array.getElem?_append_right (by omega)]
    simpa [hus] using hu

/-- The part of append that grows: its facts. -/
theorem grow_facts {P : Program} {tt : TT} (hT : tt.ok P) {h : Heap} {ρ : Ren} {T : Nat → Prop} {w : World} (hR : Rel h ρ T w) {e : TypeId} {te : TI} (hte : tt e = some te) (hb0 : te.bytes ≠ 0) (hz : te.zero.length = te.size)
    {need sCap : Nat} (hcap : sCap < need) (hlim : (2 * need + 1000) * te.bytes ≤ 2 ^ 48) {us vs : Array Value}
    {c : Cs} (hsz : us.size + vs.size = need * te.size) (hcs : c.size = need * te.size) (hc : ∀ rest, CRel ρ c (us ++ vs ++ rest) 0) :
    ∃ i z newCap ρ', (∀ w, (typeInfo e).run P w = .ok i w) ∧ i.bytes = te.bytes ∧ (∀ w, (zeroValue e).run P w = .ok z w) ∧ Builtin.nextslicecap need sCap * te.bytes ≤ 2 ^ 48 ∧
      (choose (.appendCap need sCap e)).run P w = .ok newCap w.drew ∧ need ≤ newCap ∧ (∀ i, i < h.next → ρ' i = ρ i) ∧ ρ.le ρ' ∧
      Rel (h.push (.room e c)) ρ' T (w.drew.alloc (.cells (us ++ vs ++ Builtin.zeroCells z.cells (newCap - need)) e)) ∧
      VRel ρ' (.slU h.next 0 need te.size) (.slice (some ⟨w.heap.size, 0, none⟩) need newCap) ∧
      Keeps T w (w.drew.alloc (.cells (us ++ vs ++ Builtin.zeroCells z.cells (newCap - need)) e)) := by
  obtain ⟨i', d, z, hi', _, his, hib, hzz, hzc, _⟩ := hT.info hte
  have hiw : ∀ w, (typeInfo e).run P w = .ok i' w := fun w => by simp [typeInfo, hi']
  have hzr : ∀ w, (zeroValue e).run P w = .ok z w := fun w => by simp [zeroValue, typeInfo, hi', hzz]
  have hn1 : Builtin.nextslicecap need sCap * te.bytes ≤ 2 ^ 48 :=
    Nat.le_trans (Nat.mul_le_mul_right _ (nextslicecap_le hcap)) hlim
  have hneed : need < 2 ^ 62 := by
    have : need * 1 ≤ (2 * need + 1000) * te.bytes := Nat.mul_le_mul (by omega) (by omega)
    omega
  let newCap := need + w.tape w.drawn (.appendCap need sCap e) % (2 ^ 63 - need)
  have hch : (choose (.appendCap need sCap e)).run P w = .ok newCap w.drew := by
    rw [run_choose]
    rfl
  have hzsz : z.cells.size = te.size := by rw [← Array.length_toList, hzc, hz]
  have hnc : need ≤ newCap := by simp [newCap]
  have hasz : (us ++ vs ++ Builtin.zeroCells z.cells (newCap - need)).size = newCap * te.size := by
    simp only [Array.size_append, Builtin.zeroCells, Array.size_map, Array.size_range, hzsz, hsz]
    rw [← Nat.add_mul]; congr 1; omega
  obtain ⟨ρ', h1, h2, h3, h4, h5⟩ := (hR.drew).push_room (e := e) (c := c) (arr := us ++ vs ++ Builtin.zeroCells z.cells (newCap - need)) (by rw [hasz, hcs]; exact Nat.mul_le_mul_right _ hnc) (hc _)
  refine ⟨i', z, newCap, ρ', hiw, hib, hzr, hn1, hch, hnc, h3, h1, h4, ?_, (Keeps.drew T w).trans h5⟩
  simp only [VRel]
  exact ⟨_, newCap, h2, rfl, hnc, by show 0 + newCap * te.size ≤ Array.size _; rw [hasz]; omega⟩

theorem lenA_seg {h : Heap} {x : AV} {n size : Nat} {d : Cs} (hl : lenA x = some n) (hs : segOf h x n size = some d) : d.size = n * size := by
  unfold segOf at hs
  split at hs
  · split at hs
    · split at hs
      · exact (Cs.sub_spec hs).2.1
      · cases hs
    · cases hs
  · split at hs
    · split at hs
      · exact (Cs.sub_spec hs).2.1
      · cases hs
    · cases hs
  · cases hs
    unfold lenA at hl
    split at hl <;> first | (cases hl; simp [Cs.size]; done) | (rename_i heq; cases heq; done) | cases hl
  · cases hb : Nat.beq size 1 with
    | false => rw [hb] at hs; simp at hs
    | true =>
      rw [hb] at hs; simp only [cond_true, Option.some.injEq] at hs; subst hs
      simp only [lenA, Option.some.injEq] at hl
      subst hl
      have := Nat.eq_of_beq_eq_true hb
      subst this; simp [Cs.size]
  · cases hs

theorem app_all {c d e : Cs} (h : c.app d = some e) : c.sub 0 c.size = some c := by
  cases c with
  | av l => have : Nat.ble l.length l.length = true := by simp
            simp [Cs.sub, Cs.size, this]
  | raw l => have : Nat.ble l.length l.length = true := by simp
             simp [Cs.sub, Cs.size, this]
  | tr n z t => simp [Cs.app] at h
  | row m n g wr => cases d <;> simp [Cs.app] at h

theorem run_append_grow {P : Program} {w : World} {t xt ty e : TypeId} {ts : Array TypeId} {us : Array Value} {base : Option Addr} {sLen sCap n size newCap : Nat} {v z : Value} {i : TypeInfo} {dx : TypeDesc} {old new : Array Value}
    (ht0 : ts[0]? = some t) (ht1 : ts[1]? = some xt) (hu0 : us[0]? = some (.slice base sLen sCap)) (hu1 : us[1]? = some v) (hund : ∀ w, (underlying t).run P w = .ok (.slice e) w)
    (hsz : ∀ w, (sizeOf e).run P w = .ok size w) (hdx : ∀ w, (underlying xt).run P w = .ok dx w) (hdn : ∀ k, dx ≠ .int k) (hlen : ∀ w, (Builtin.lenOf v).run P w = .ok n w) (hi : ∀ w, (typeInfo e).run P w = .ok i w)
    (hb : i.bytes ≠ 0) (hz : ∀ w, (zeroValue e).run P w = .ok z w) (hcap : sCap < sLen + n) (hnx : Builtin.nextslicecap (sLen + n) sCap * i.bytes ≤ 2 ^ 48)
    (hch : (choose (.appendCap (sLen + n) sCap e)).run P w = .ok newCap w.drew) (hold : (Builtin.firstCells size sLen (.slice base sLen sCap)).run P w.drew = .ok old w.drew) (hnew : (Builtin.firstCells size n v).run P w.drew = .ok new w.drew) :
    (Builtin.append_ ts ty us).run P w = .ok (.slice (some ⟨w.heap.size, 0, none⟩) (sLen + n) newCap) (w.drew.alloc (.cells (old ++ new ++ Builtin.zeroCells z.cells (newCap - (sLen + n))) e)) := by
  simp only [Builtin.append_, ht0, ht1, hu0, hu1, Sem.run_bind, hund, Result.andThen_ok, hsz, hdx, hlen, Sem.run_pure, Bool.false_eq_true, if_false, Sem.run_ite]
  rw [if_neg (by omega)]
  simp only [hi, Result.andThen_ok]
  rw [if_neg (by rintro ⟨_, h⟩; rcases h with h | h; exact h; exact hb h), if_neg (by omega)]
  simp only [hch, Result.andThen_ok, run_askRoom, hold, Bool.not_false, if_true, hnew, hz, newRow, Sem.run_bind, run_newObj, Sem.run_pure]
  rfl

theorem run_append_room {P : Program} {w w' : World} {t xt ty e : TypeId} {ts : Array TypeId} {us : Array Value} {base : Option Addr} {sLen sCap n size : Nat} {v : Value} {dx : TypeDesc} {new : Array Value}
    (ht0 : ts[0]? = some t) (ht1 : ts[1]? = some xt) (hu0 : us[0]? = some (.slice base sLen sCap)) (hu1 : us[1]? = some v) (hund : ∀ w, (underlying t).run P w = .ok (.slice e) w)
    (hsz : ∀ w, (sizeOf e).run P w = .ok size w) (hdx : ∀ w, (underlying xt).run P w = .ok dx w) (hdn : ∀ k, dx ≠ .int k) (hlen : ∀ w, (Builtin.lenOf v).run P w = .ok n w)
    (hcap : sLen + n ≤ sCap) (hnew : (Builtin.firstCells size n v).run P w = .ok new w) (hst : (match base with | some a => storeCells (a.add (sLen * size)) new.toList | none => pure ()).run P w = .ok () w') :
    (Builtin.append_ ts ty us).run P w = .ok (.slice base (sLen + n) sCap) w' := by
  simp only [Builtin.append_, ht0, ht1, hu0, hu1, Sem.run_bind, hund, Result.andThen_ok, hsz, hdx, hlen, Sem.run_pure, Bool.false_eq_true, if_false, Sem.run_ite]
  rw [if_pos hcap]
  cases base with
  | none =>
    simp only [Bool.not_false, if_true, hnew, Result.andThen_ok]
    simp only [Sem.run_pure, Result.ok.injEq, true_and] at hst
    rw [hst]
    rfl
  | some a =>
    simp only [] at hst
    simp only [Bool.not_false, if_true, hnew, Result.andThen_ok, hst, Sem.run_bind, Sem.run_pure]

theorem appendA_ok {P : Program} {tt : TT} (hT : tt.ok P) {h h' : Heap} {ρ : Ren} {T : Nat → Prop} {w : World} (hR : Rel h ρ T w) {t xt ty : TypeId} {s x r : AV} {u v : Value} {ts : Array TypeId} {us : Array Value}
    (hb : appendA tt t xt s x h = some (r, h')) (hu : VRel ρ s u) (hv : VRel ρ x v) (ht0 : ts[0]? = some t) (ht1 : ts[1]? = some xt) (hu0 : us[0]? = some u) (hu1 : us[1]? = some v) : XOk P (Builtin.append_ ts ty us) h ρ T w r h' := by
  unfold appendA at hb
  split at hb
  · rename_i ti tx n hti htx hn
    cases hxi : isIntD tx.desc with
    | true => rw [hxi] at hb; simp at hb
    | false =>
      rw [hxi] at hb
      simp only [cond_false] at hb
      split at hb
      · rename_i e hd
        split at hb
        · rename_i te hte
          cases hbz : (Nat.beq te.bytes 0 || !Nat.beq te.zero.length te.size) with
          | true => rw [hbz] at hb; simp at hb
          | false =>
            rw [hbz] at hb; simp only [cond_false] at hb
            simp only [Bool.or_eq_false_iff, Bool.not_eq_false'] at hbz
            have hb0 : te.bytes ≠ 0 := fun h0 => by rw [h0] at hbz; cases hbz.1
            have hz : te.zero.length = te.size := Nat.eq_of_beq_eq_true hbz.2
            have hund : ∀ w, (underlying t).run P w = .ok (.slice e) w := fun w => by
              obtain ⟨d1, r1, _, m1⟩ := run_under (P := P) hT hti w
              rw [mkTD_slice (m1.trans hd)] at r1; exact r1
            have hundx : ∃ dx, (∀ w, (underlying xt).run P w = .ok dx w) ∧ ∀ k, dx ≠ .int k := by
              obtain ⟨d1, _, p1, m1⟩ := run_under (P := P) hT htx w
              refine ⟨d1, fun w => by simp [underlying, p1], fun k hk => ?_⟩
              subst hk
              rw [← m1] at hxi; cases hxi
            obtain ⟨dx, hdx, hdn⟩ := hundx
            have hzeros : (dx matches .int _) = false := by
              cases dx <;> first | rfl | exact absurd rfl (hdn _)
            have hlen : ∀ w, (Builtin.lenOf v).run P w = .ok n w := lenA_ok hn hv
            split at hb
            · rename_i d hseg
              have hdsz := lenA_seg hn hseg
              obtain ⟨vs, hvs, hvsz, hvc⟩ := firstCells_seg (P := P) hR hseg hv
              obtain ⟨vs', hvs', hvsz', hvc'⟩ := firstCells_seg (P := P) hR.drew hseg hv
              split at hb
              · -- a nil slice
                simp only [VRel] at hu; subst hu
                split at hb
                · rename_i hn0
                  cases hb; subst hn0
                  refine ⟨.slice none 0 0, w, ρ, ?_, fun _ _ => rfl, Ren.le_refl _, Nat.le_refl _, hR, by simp only [VRel], Keeps.refl _ _⟩
                  exact run_append_room (w' := w) ht0 ht1 hu0 hu1 hund (fun w => run_sizeOf hT hte w) hdx hdn hlen (by omega) hvs rfl
                · rename_i hn0
                  cases hck : (Nat.ble ((2 * n + 1000) * te.bytes) (2 ^ 48) && oneCells d) with
                  | false => rw [hck] at hb; simp at hb
                  | true =>
                    rw [hck] at hb; simp only [cond_true, Heap.new_eq, Option.some.injEq, Prod.mk.injEq] at hb
                    obtain ⟨rfl, rfl⟩ := hb
                    simp only [Bool.and_eq_true, Nat.ble_eq] at hck
                    obtain ⟨i, z, newCap, ρ', g1, g2, g3, g4, g5, g6, g7, g8, g9, g10, g11⟩ := grow_facts (P := P) hT hR hte hb0 hz (need := 0 + n) (sCap := 0) (by omega) (by simpa using hck.1) (us := #[]) (vs := vs') (c := d)
                      (by simp [hvsz', hdsz]) (by simpa using hdsz) (fun rest => by
                        intro k y hk
                        obtain ⟨q, hq, hr⟩ := hvc' k y hk
                        have hlt : k < vs'.size := by rw [hvsz']; exact Cs.get_lt hk
                        refine ⟨q, ?_, hr⟩
                        simp only [Nat.zero_add] at hq ⊢
                        rw [Array.getElem?_append_left (by simpa using hlt)]
                        simpa using hq)
                    refine ⟨_, _, ρ', run_append_grow ht0 ht1 hu0 hu1 hund (fun w => run_sizeOf hT hte w) hdx hdn hlen g1 (by omega) g3 (by omega) (by rw [g2]; exact g4) g5 (by simp [Builtin.firstCells]) hvs', g7, g8, by simp, g9, by simpa using g10, g11⟩
              · -- a slice whose capacity is known
                rename_i i o sn sc
                have hu' := hu
                simp only [VRel] at hu; obtain ⟨a, ha, rfl⟩ := hu
                split at hb
                · rename_i hle
                  split at hb
                  · rename_i hn0
                    cases hb; subst hn0
                    have hvs0 : vs = #[] := by rw [Nat.zero_mul] at hdsz; exact Array.eq_empty_of_size_eq_zero (by omega)
                    subst hvs0
                    refine ⟨_, w, ρ, run_append_room (w' := w) ht0 ht1 hu0 hu1 hund (fun w => run_sizeOf hT hte w) hdx hdn hlen hle hvs (by simp [storeCells]), fun _ _ => rfl, Ren.le_refl _, Nat.le_refl _, hR, by simpa only [Nat.add_zero] using hu', Keeps.refl _ _⟩
                  · cases h1 : oneCells d with
                    | false => rw [h1] at hb; simp at hb
                    | true =>
                      rw [h1] at hb; simp only [cond_true] at hb
                      split at hb
                      · rename_i h2 hput
                        cases hb
                        obtain ⟨w', hst, hR', hn', hk'⟩ := putSeg_ok (P := P) hR hput ha h1 hvsz hvc
                        refine ⟨_, w', ρ, run_append_room (w' := w') ht0 ht1 hu0 hu1 hund (fun w => run_sizeOf hT hte w) hdx hdn hlen hle hvs ?_, fun _ _ => rfl, Ren.le_refl _, by omega, hR', by simp only [VRel]; exact ⟨a, ha, rfl⟩, hk'⟩
                        simp only [add_zero_spot]
                        rw [Nat.add_assoc]
                        exact hst
                      · cases hb
                · rename_i hgt
                  cases hck : Nat.ble ((2 * (sn + n) + 1000) * te.bytes) (2 ^ 48) with
                  | false => rw [hck] at hb; simp at hb
                  | true =>
                    rw [hck] at hb; simp only [cond_true] at hb
                    split at hb
                    · rename_i c hcseg
                      split at hb
                      · rename_i c' happ
                        rw [Heap.new_eq] at hb
                        cases hb
                        obtain ⟨os, hos, hosz, hoc⟩ := firstCells_seg (P := P) hR.drew hcseg hu'
                        have hcsz : c.size = sn * te.size := by
                          refine lenA_seg (x := .sl i o sn sc) rfl hcseg
                        obtain ⟨ii, z, newCap, ρ', g1, g2, g3, g4, g5, g6, g7, g8, g9, g10, g11⟩ := grow_facts (P := P) hT hR hte hb0 hz (need := sn + n) (sCap := sc) (by omega) (by simpa using hck) (us := os) (vs := vs') (c := c')
                          (by rw [hosz, hvsz', hcsz, hdsz, Nat.add_mul]) (by rw [(Cs.app_spec happ).1, hcsz, hdsz, Nat.add_mul]) (fun rest => CRel.app happ hoc hvc' hosz hvsz')
                        exact ⟨_, _, ρ', run_append_grow ht0 ht1 hu0 hu1 hund (fun w => run_sizeOf hT hte w) hdx hdn hlen g1 (by omega) g3 (by omega) (by rw [g2]; exact g4) g5 hos hvs', g7, g8, by simp, g9, g10, g11⟩
                      · cases hb
                    · cases hb
              · -- a slice whose capacity is not known
                rename_i i sn sz
                split at hb
                · rename_i e' c hi
                  cases hck : (Nat.beq sz te.size && Nat.beq c.size (sn * te.size) && Nat.beq e' e && Nat.ble ((2 * (sn + n) + 1000) * te.bytes) (2 ^ 48) && oneCells d) with
                  | false => rw [hck] at hb; simp at hb
                  | true =>
                    rw [hck] at hb; simp only [cond_true] at hb
                    simp only [Bool.and_eq_true, Nat.ble_eq] at hck
                    obtain ⟨⟨⟨⟨k1, k2⟩, k3⟩, k4⟩, k5⟩ := hck
                    have k1 := Nat.eq_of_beq_eq_true k1
                    have k2 := Nat.eq_of_beq_eq_true k2
                    have k3 := Nat.eq_of_beq_eq_true k3
                    subst k1; subst k3
                    split at hb
                    · rename_i c' happ
                      rw [Heap.new_eq, Heap.next_drop] at hb
                      cases hb
                      have hu' := hu
                      simp only [VRel] at hu; obtain ⟨a, sc, ha, rfl, hle, hlim⟩ := hu
                      obtain ⟨S, r1, _⟩ := id hR
                      obtain ⟨a', ha', ho⟩ := r1 i _ hi
                      obtain rfl : a' = a := Option.some.inj (ha'.symm.trans ha)
                      obtain ⟨h0, hS, arr, hb1, hasz, hclim, hcr⟩ := ho
                      have hc'sz : c'.size = (sn + n) * te.size := by rw [(Cs.app_spec happ).1, k2, hdsz, Nat.add_mul]
                      by_cases hroom : sn + n ≤ sc
                      · -- in place
                        have hfit : sn * te.size + vs.size ≤ arr.size := by
                          rw [hasz, hvsz, hdsz, ← Nat.add_mul]
                          exact Nat.le_trans (Nat.mul_le_mul_right _ hroom) (by omega)
                        obtain ⟨w', arr', hrun, hb', hsz', hw, hne, ho1, ho2, ho3, hget⟩ := run_storeCells (P := P) a'.blk vs.toList (a'.base + 0 + sn * te.size) 0 w arr hb1 (oneCells_spec k5 hvsz hvc) (by simp [h0]; omega)
                        have hcr' : CRel ρ c' arr' 0 := by
                          obtain ⟨q1, q2, q3⟩ := Cs.app_spec happ
                          intro k y hk
                          simp only [Nat.zero_add]
                          rw [hget]
                          simp only [h0, Nat.zero_add, Nat.add_zero, Array.length_toList]
                          by_cases hkc : k < c.size
                          · rw [if_neg (by omega)]
                            rw [q2 k hkc] at hk
                            simpa using hcr k y hk
                          · obtain ⟨j, rfl⟩ : ∃ j, k = c.size + j := ⟨k - c.size, by omega⟩
                            rw [q3] at hk
                            have hj := Cs.get_lt hk
                            rw [if_pos (by omega)]
                            obtain ⟨q, hq, hr⟩ := hvc j y hk
                            refine ⟨q, ?_, hr⟩
                            have : c.size + j - sn * te.size = j := by omega
                            rw [this]
                            simpa using hq
                        have hR' : Rel (h.set i (.room e' c')) ρ T w' := hR.upd hi ha hw hne (fun S h => h.2.1) fun S' hS' hx => ⟨h0, hS', arr', hb', by omega, by rw [hc'sz]; exact Nat.le_trans (Nat.mul_le_mul_right _ hroom) (by omega), hcr'⟩
                        obtain ⟨ρ', m1, m2, m3, m4⟩ := hR'.move (i := i) (o := .room e' c') (a := a') (by rw [Heap.get_set, if_pos rfl]) ha
                        refine ⟨_, w', ρ', run_append_room (w' := w') ht0 ht1 hu0 hu1 hund (fun w => run_sizeOf hT hte w) hdx hdn hlen hroom hvs ?_, m3, m1, by simp, ?_, ?_, ?_⟩
                        · simp only [add_zero_spot]; exact hrun
                        · refine m4.less (Nat.le_refl _) fun j x hj => ?_
                          rw [Heap.get_push] at hj ⊢
                          have hnx : ((h.set i (.room e' c')).drop i).next = (h.drop i).next := by simp
                          rw [hnx]
                          split at hj
                          · rename_i hjn; rw [if_pos hjn]; exact hj
                          · rename_i hjn
                            rw [if_neg hjn, Heap.get_drop]
                            rw [Heap.get_drop] at hj
                            split at hj
                            · cases hj
                            · rename_i hji; rw [if_neg hji, Heap.get_set, if_neg hji]; exact hj
                        · simp only [VRel]
                          exact ⟨a', sc, m2, by simp, hroom, hlim⟩
                        · refine ⟨by omega, ho1, ho2, ho3, fun b hb2 => hne b fun hbb => hb2 ?_⟩
                          subst hbb
                          exact hR.own_T hi ha (fun S h => h.2.1)
                      · -- it grows
                        obtain ⟨os, hos, hosz, hoc⟩ := firstCells_seg (P := P) hR.drew (x := .slU i 0 sn te.size) (n := sn) (size := te.size) (d := c) (by
                          simp only [segOf, hi, AObj.conts]
                          rw [← k2]; exact app_all happ) hu'
                        obtain ⟨ii, z, newCap, ρ', g1, g2, g3, g4, g5, g6, g7, g8, g9, g10, g11⟩ := grow_facts (P := P) hT hR hte hb0 hz (need := sn + n) (sCap := sc) (by omega) k4 (us := os) (vs := vs') (c := c')
                          (by rw [hosz, hvsz', k2, hdsz, Nat.add_mul]) hc'sz (fun rest => CRel.app happ hoc hvc' hosz hvsz')
                        refine ⟨_, _, ρ', run_append_grow ht0 ht1 hu0 hu1 hund (fun w => run_sizeOf hT hte w) hdx hdn hlen g1 (by omega) g3 (by omega) (by rw [g2]; exact g4) g5 hos hvs', g7, g8, by simp, ?_, g10, g11⟩
                        refine g9.less (Nat.le_refl _) fun j x hj => ?_
                        rw [Heap.get_push] at hj ⊢
                        have hnx : (h.drop i).next = h.next := by simp
                        rw [hnx] at hj
                        split at hj
                        · rename_i hjn; rw [if_pos hjn]; exact hj
                        · rename_i hjn
                          rw [if_neg hjn]
                          rw [Heap.get_drop] at hj
                          split at hj
                          · cases hj
                          · exact hj
                    · cases hb
                · cases hb
              · cases hb
            · cases hb
        · cases hb
      · cases hb
  · cases hb

/-! ### copy -/
def copyA (tt : TT) (t : TypeId) (x y : AV) (h : Heap) : Option (AV × Heap) :=
  match tt t, lenA x, lenA y with
  | some ti, some dn, some n => match ti.desc with
    | .slice e => match tt e with
      | some te => match segOf h y (Nat.min n dn) te.size with
        | some d => match x with
          | .sl i o _ _ => if Nat.min n dn = 0 then some (.lit (.int .i64 0), h) else bif oneCells d then (match putSeg h i o d with
            | some h' => some (.lit (.int .i64 (Nat.min n dn)), h')
            | none => none) else none
          | .slU i o _ _ => if Nat.min n dn = 0 then some (.lit (.int .i64 0), h) else bif oneCells d then (match putSeg h i o d with
            | some h' => some (.lit (.int .i64 (Nat.min n dn)), h')
            | none => none) else none
          | .lit (.slice none _ _) => if Nat.min n dn = 0 then some (.lit (.int .i64 0), h) else none
          | _ => none
        | none => none
      | none => none
    | _ => none
  | _, _, _ => none

theorem run_copy {P : Program} {w w' : World} {t ty e : TypeId} {ts : Array TypeId} {us : Array Value} {base : Option Addr} {dn sc n size : Nat} {v : Value} {new : Array Value}
    (ht0 : ts[0]? = some t) (hu0 : us[0]? = some (.slice base dn sc)) (hu1 : us[1]? = some v) (hund : ∀ w, (underlying t).run P w = .ok (.slice e) w)
    (hsz : ∀ w, (sizeOf e).run P w = .ok size w) (hlen : ∀ w, (Builtin.lenOf v).run P w = .ok n w) (hnew : (Builtin.firstCells size (Nat.min n dn) v).run P w = .ok new w)
    (hst : (match base with | some a => storeCells a new.toList | none => pure ()).run P w = .ok () w') : (Builtin.copy_ ts ty us).run P w = .ok (.int .i64 (Nat.min n dn)) w' := by
  simp only [Builtin.copy_, ht0, hu0, hu1, Sem.run_bind, hund, Result.andThen_ok, hsz, hlen, hnew]
  cases base with
  | none =>
    simp only [Sem.run_pure, Result.ok.injEq, true_and] at hst
    rw [hst]; rfl
  | some a =>
    simp only [] at hst
    simp only [hst, Sem.run_bind, Result.andThen_ok]; rfl

theorem copyA_ok {P : Program} {tt : TT} (hT : tt.ok P) {h h' : Heap} {ρ : Ren} {T : Nat → Prop} {w : World} (hR : Rel h ρ T w) {t ty : TypeId} {x y r : AV} {u v : Value} {ts : Array TypeId} {us : Array Value}
    (hb : copyA tt t x y h = some (r, h')) (hu : VRel ρ x u) (hv : VRel ρ y v) (ht0 : ts[0]? = some t) (hu0 : us[0]? = some u) (hu1 : us[1]? = some v) : XOk P (Builtin.copy_ ts ty us) h ρ T w r h' := by
  unfold copyA at hb
  split at hb
  · rename_i ti dn n hti hdn hn
    split at hb
    · rename_i e hd
      split at hb
      · rename_i te hte
        have hund : ∀ w, (underlying t).run P w = .ok (.slice e) w := fun w => by
          obtain ⟨d1, r1, _, m1⟩ := run_under (P := P) hT hti w
          rw [mkTD_slice (m1.trans hd)] at r1; exact r1
        have hlen : ∀ w, (Builtin.lenOf v).run P w = .ok n w := lenA_ok hn hv
        split at hb
        · rename_i d hseg
          obtain ⟨vs, hvs, hvsz, hvc⟩ := firstCells_seg (P := P) hR hseg hv
          have zero : ∀ (_ : Nat.min n dn = 0), vs = #[] := fun h0 => by
            have hds : d.size = 0 := by
              unfold segOf at hseg
              split at hseg
              · split at hseg
                · split at hseg
                  · have := (Cs.sub_spec hseg).2.1; rw [h0, Nat.zero_mul] at this; exact this
                  · cases hseg
                · cases hseg
              · split at hseg
                · split at hseg
                  · have := (Cs.sub_spec hseg).2.1; rw [h0, Nat.zero_mul] at this; exact this
                  · cases hseg
                · cases hseg
              · cases hseg; rfl
              · cases hbb : Nat.beq te.size 1 with
                | false => rw [hbb] at hseg; simp at hseg
                | true => rw [hbb] at hseg; simp only [cond_true, Option.some.injEq] at hseg; subst hseg; simp [Cs.size, h0]
              · cases hseg
            exact Array.eq_empty_of_size_eq_zero (by omega)
          split at hb
          · rename_i i o sn sc
            simp only [lenA, Option.some.injEq] at hdn; subst hdn
            simp only [VRel] at hu; obtain ⟨a, ha, rfl⟩ := hu
            split at hb
            · rename_i h0
              cases hb
              have := zero h0; subst this
              refine ⟨_, w, ρ, run_copy (w' := w) ht0 hu0 hu1 hund (fun w => run_sizeOf hT hte w) hlen hvs (by simp [storeCells]), fun _ _ => rfl, Ren.le_refl _, Nat.le_refl _, hR, by simp only [VRel]; rw [h0]; rfl, Keeps.refl _ _⟩
            · cases h1 : oneCells d with
              | false => rw [h1] at hb; simp at hb
              | true =>
                rw [h1] at hb; simp only [cond_true] at hb
                split at hb
                · rename_i h2 hput
                  cases hb
                  obtain ⟨w', hst, hR', hn', hk'⟩ := putSeg_ok (P := P) hR hput ha h1 hvsz hvc
                  exact ⟨_, w', ρ, run_copy (w' := w') ht0 hu0 hu1 hund (fun w => run_sizeOf hT hte w) hlen hvs hst, fun _ _ => rfl, Ren.le_refl _, by omega, hR', by simp only [VRel], hk'⟩
                · cases hb
          · rename_i i o sn sz
            simp only [lenA, Option.some.injEq] at hdn; subst hdn
            simp only [VRel] at hu; obtain ⟨a, c, ha, rfl, _⟩ := hu
            split at hb
            · rename_i h0
              cases hb
              have := zero h0; subst this
              refine ⟨_, w, ρ, run_copy (w' := w) ht0 hu0 hu1 hund (fun w => run_sizeOf hT hte w) hlen hvs (by simp [storeCells]), fun _ _ => rfl, Ren.le_refl _, Nat.le_refl _, hR, by simp only [VRel]; rw [h0]; rfl, Keeps.refl _ _⟩
            · cases h1 : oneCells d with
              | false => rw [h1] at hb; simp at hb
              | true =>
                rw [h1] at hb; simp only [cond_true] at hb
                split at hb
                · rename_i h2 hput
                  cases hb
                  obtain ⟨w', hst, hR', hn', hk'⟩ := putSeg_ok (P := P) hR hput ha h1 hvsz hvc
                  exact ⟨_, w', ρ, run_copy (w' := w') ht0 hu0 hu1 hund (fun w => run_sizeOf hT hte w) hlen hvs hst, fun _ _ => rfl, Ren.le_refl _, by omega, hR', by simp only [VRel], hk'⟩
                · cases hb
          · simp only [VRel] at hu; subst hu
            have hd0 : dn = 0 := by
              unfold lenA at hdn
              split at hdn <;> first | cases hdn; done | (cases hdn; rfl) | (rename_i heq; cases heq; done) | (rename_i heq; cases heq; cases hdn; rfl)
            split at hb
            · rename_i h0
              cases hb
              have := zero h0; subst this
              rename_i q1 q2
              have e0 : ∃ q, us[0]? = some (.slice none 0 q) := by
                unfold lenA at hdn
                split at hdn <;> first | cases hdn; done | (rename_i heq; cases heq; done) | (rename_i heq; cases heq; exact ⟨_, hu0⟩) | cases hdn
              obtain ⟨q, e0⟩ := e0
              subst hd0
              refine ⟨_, w, ρ, run_copy (w' := w) ht0 e0 hu1 hund (fun w => run_sizeOf hT hte w) hlen hvs rfl, fun _ _ => rfl, Ren.le_refl _, Nat.le_refl _, hR, by simp only [VRel]; rw [h0]; rfl, Keeps.refl _ _⟩
            · cases hb
          · cases hb
        · cases hb
      · cases hb
    · cases hb
  · cases hb

/-! ### make, literals of slices -/
/-- make([]T, len, cap), both known (few cells) or not; 'room': one that is to be appended to. -/
def makeA (tt : TT) (t : TypeId) (l c : AV) (h : Heap) : Option (AV × Heap) :=
  match tt t, l, c with
  | some ti, .lit (.int _ l), .lit (.int _ c) => match ti.desc with
    | .slice e => match tt e with
      | some te => if 0 ≤ l ∧ l ≤ c ∧ (te.bytes : Int) * c ≤ 2 ^ 48 ∧ c < 2 ^ 62 then
          bif Nat.beq te.zero.length te.size then some (h.new (fun k => .sl k 0 l.toNat c.toNat) (.cells e (.tr (c.toNat * te.size) (toAV te.zero) .leaf))) else none
        else none
      | none => none
    | _ => none
  | _, _, _ => none
/-- The same, with length 0: what it is good for is to be appended to. -/
def makeU (tt : TT) (t : TypeId) (l c : AV) (h : Heap) : Option (AV × Heap) :=
  match tt t, l, c with
  | some ti, .lit (.int _ 0), .lit (.int _ c) => match ti.desc with
    | .slice e => match tt e with
      | some te => if 0 ≤ c ∧ (te.bytes : Int) * c ≤ 2 ^ 48 ∧ c < 2 ^ 62 then
          bif Nat.beq te.zero.length te.size then some (h.new (fun k => .slU k 0 0 te.size) (.room e (.raw []))) else none
        else none
      | none => none
    | _ => none
  | _, _, _ => none

theorem wrap_i64 {c : Int} (h0 : 0 ≤ c) (h1 : c < 2 ^ 62) : IntKind.i64.wrap c = c := by
  have e : (2 : Int) ^ 62 = 4611686018427387904 := rfl
  rw [e] at h1
  simp [IntKind.wrap, IntKind.bits, IntKind.signed]
  omega

theorem run_make {P : Program} {tt : TT} (hT : tt.ok P) {w : World} {t e : TypeId} {ti te : TI} (hti : tt t = some ti) (hd : ti.desc = .slice e) (hte : tt e = some te) {k k' : IntKind} {l c : Int}
    (hc : 0 ≤ l ∧ l ≤ c ∧ (te.bytes : Int) * c ≤ 2 ^ 48 ∧ c < 2 ^ 62) (hz : te.zero.length = te.size) :
    ∃ arr : Array Value, (Instr.makeSlice t (.int k l) (.int k' c)).run P w = .ok (.slice (some ⟨w.heap.size, 0, none⟩) l.toNat c.toNat) (w.alloc (.cells arr e)) ∧ arr.size = c.toNat * te.size ∧
      ∀ j, j < c.toNat * te.size → arr[j]? = te.zero[j % te.zero.length]? := by
  obtain ⟨i, hi, hib, his⟩ := run_bytes (P := P) hT hte w
  obtain ⟨z, hzr, hzc⟩ := run_zeroValue (P := P) hT hte w
  obtain ⟨d1, r1, _, m1⟩ := run_under (P := P) hT hti w
  rw [mkTD_slice (m1.trans hd)] at r1
  obtain ⟨h0, h1, h2, h3⟩ := hc
  have wl : IntKind.i64.wrap l = l := wrap_i64 h0 (by omega)
  have wc : IntKind.i64.wrap c = c := wrap_i64 (by omega) h3
  have hn : ¬ ((c < 0 ∨ (i.bytes : Int) * c > 2 ^ 48) ∨ l < 0 ∨ l > c) := by rw [hib]; omega
  have hn' : ¬ ((decide (c < 0) || decide ((i.bytes : Int) * c > 2 ^ 48) || decide (l < 0) || decide (l > c)) = true) := by
    simp only [Bool.or_eq_true, decide_eq_true_eq]; omega
  have hz0 : z.cells.size = te.size := by rw [← Array.length_toList, hzc, hz]
  let n := c.toNat * te.size
  by_cases hn0 : n = 0
  · refine ⟨(Array.range n).map (fun _ => default), ?_, by simp [n], fun j hj => by omega⟩
    simp only [Instr.makeSlice, Sem.run_bind, r1, Result.andThen_ok, asInt, asIntOf, Sem.run_pure, hi, wl, wc, Sem.run_ite]
    rw [if_neg (by simpa using hn')]
    simp only [run_askRoom, Result.andThen_ok, run_sizeOf hT hte]
    have hn0' : c.toNat * te.size = 0 := hn0
    simp [hn0', newRow, n]
  · refine ⟨(Array.range n).map (z.cells[· % z.cells.size]!), ?_, by simp [n], fun j hj => ?_⟩
    · simp only [Instr.makeSlice, Sem.run_bind, r1, Result.andThen_ok, asInt, asIntOf, Sem.run_pure, hi, wl, wc, Sem.run_ite]
      rw [if_neg (by simpa using hn')]
      simp only [run_askRoom, Result.andThen_ok, run_sizeOf hT hte]
      have hn0' : ¬ c.toNat * te.size = 0 := hn0
      simp [hn0', newRow, hzr, n]
    · have hj' : j < n := hj
      have hzpos : 0 < z.cells.size := by
        rw [hz0]; exact Nat.pos_of_ne_zero fun h => hn0 (by simp [n, h])
      have hm : j % z.cells.size < z.cells.size := Nat.mod_lt _ hzpos
      rw [Array.getElem?_map, Array.getElem?_range]
      simp only [hj', if_true, Option.map_some]
      rw [← hzc, Array.length_toList, Array.getElem?_toList]
      simp [hm]

theorem makeA_ok {P : Program} {tt : TT} (hT : tt.ok P) {h h' : Heap} {ρ : Ren} {T : Nat → Prop} {w : World} (hR : Rel h ρ T w) {t : TypeId} {l c r : AV} {u v : Value}
    (hb : makeA tt t l c h = some (r, h')) (hu : VRel ρ l u) (hv : VRel ρ c v) : XOk P (Instr.makeSlice t u v) h ρ T w r h' := by
  unfold makeA at hb
  split at hb
  · rename_i ti k l k' c hti
    simp only [VRel] at hu hv; subst hu; subst hv
    split at hb
    · rename_i e hd
      split at hb
      · rename_i te hte
        split at hb
        · rename_i hc
          cases hz : Nat.beq te.zero.length te.size with
          | false => rw [hz] at hb; simp at hb
          | true =>
            rw [hz] at hb; simp only [cond_true, Heap.new_eq, Option.some.injEq, Prod.mk.injEq] at hb
            obtain ⟨rfl, rfl⟩ := hb
            have hz := Nat.eq_of_beq_eq_true hz
            obtain ⟨arr, hrun, hasz, haget⟩ := run_make (P := P) hT (w := w) hti hd hte (k := k) (k' := k') hc hz
            obtain ⟨ρ', h1, h2, h3, h4, h5⟩ := hR.push_cells (e := e) (c := .tr (c.toNat * te.size) (toAV te.zero) .leaf) (arr := arr) (by simp [Cs.size, hasz]) (by
              intro j y hj
              have hlt := Cs.get_lt hj
              simp only [Cs.size] at hlt
              simp only [Cs.get, nblt_iff.2 hlt, cond_true, PM.get_leaf, toAV, List.length_map, List.getElem?_map] at hj
              rw [Nat.zero_add, haget j hlt]
              cases hq : te.zero[j % te.zero.length]? with
              | none => rw [hq] at hj; cases hj
              | some q => rw [hq] at hj; cases hj; exact ⟨q, rfl, by simp only [VRel]⟩)
            exact ⟨_, _, ρ', hrun, h3, h1, by simp, h4, by simp only [VRel]; exact ⟨_, h2, rfl⟩, h5⟩
        · cases hb
      · cases hb
    · cases hb
  · cases hb

theorem makeU_ok {P : Program} {tt : TT} (hT : tt.ok P) {h h' : Heap} {ρ : Ren} {T : Nat → Prop} {w : World} (hR : Rel h ρ T w) {t : TypeId} {l c r : AV} {u v : Value}
    (hb : makeU tt t l c h = some (r, h')) (hu : VRel ρ l u) (hv : VRel ρ c v) : XOk P (Instr.makeSlice t u v) h ρ T w r h' := by
  unfold makeU at hb
  split at hb
  · rename_i ti k k' c hti
    simp only [VRel] at hu hv; subst hu; subst hv
    split at hb
    · rename_i e hd
      split at hb
      · rename_i te hte
        split at hb
        · rename_i hc
          cases hz : Nat.beq te.zero.length te.size with
          | false => rw [hz] at hb; simp at hb
          | true =>
            rw [hz] at hb; simp only [cond_true, Heap.new_eq, Option.some.injEq, Prod.mk.injEq] at hb
            obtain ⟨rfl, rfl⟩ := hb
            have hz := Nat.eq_of_beq_eq_true hz
            obtain ⟨arr, hrun, hasz, haget⟩ := run_make (P := P) hT (w := w) hti hd hte (k := k) (k' := k') (l := 0) ⟨by omega, hc.1, hc.2⟩ hz
            obtain ⟨ρ', h1, h2, h3, h4, h5⟩ := hR.push_room (e := e) (c := .raw []) (arr := arr) (by simp [Cs.size]) (by intro j y hj; simp [Cs.get] at hj)
            exact ⟨_, _, ρ', hrun, h3, h1, by simp, h4, by simp only [VRel]; exact ⟨_, c.toNat, h2, rfl, by simp, by simp [hasz]⟩, h5⟩
        · cases hb
      · cases hb
    · cases hb
  · cases hb

/-- []T{..}: a new row. -/
def buildSliceA (tt : TT) (t : TypeId) (len : Nat) (ps : List (Nat × AV)) (h : Heap) : Option (AV × Heap) :=
  match tt t with
  | some ti => match ti.desc with
    | .slice e => match tt e with
      | some te => bif Nat.beq te.size 0 || !Nat.beq te.zero.length te.size || Nat.ble (2 ^ 24 + 1) (len * te.size) then none else
        match fillA (fun i => some (i * te.size, te.size)) ((List.range (len * te.size)).map fun j => .lit (te.zero[j % te.zero.length]?.getD default)) ps with
        | some l => some (h.new (fun k => .sl k 0 len len) (.cells e (.av l)))
        | none => none
      | none => none
    | _ => none
  | none => none

theorem buildSliceA_ok {P : Program} {tt : TT} (hT : tt.ok P) {h h' : Heap} {ρ : Ren} {T : Nat → Prop} {w : World} (hR : Rel h ρ T w) {t : TypeId} {len : Nat} {ps : List (Nat × AV)} {us : Array (Nat × Value)} {r : AV}
    (hb : buildSliceA tt t len ps h = some (r, h')) (hp : PRel ρ ps us.toList) : XOk P (Instr.buildSlice t len us) h ρ T w r h' := by
  unfold buildSliceA at hb
  split at hb
  · rename_i ti hti
    split at hb
    · rename_i e hd
      split at hb
      · rename_i te hte
        cases hck : (Nat.beq te.size 0 || !Nat.beq te.zero.length te.size || Nat.ble (2 ^ 24 + 1) (len * te.size)) with
        | true => rw [hck] at hb; simp at hb
        | false =>
          rw [hck] at hb; simp only [cond_false] at hb
          simp only [Bool.or_eq_false_iff, Bool.not_eq_false'] at hck
          obtain ⟨⟨k1, k2⟩, k3⟩ := hck
          have k1 : te.size ≠ 0 := fun h0 => by rw [h0] at k1; cases k1
          have k2 := Nat.eq_of_beq_eq_true k2
          have k3 : ¬ len * te.size > 2 ^ 24 := fun h0 => by
            have : Nat.ble (2 ^ 24 + 1) (len * te.size) = true := by rw [Nat.ble_eq]; omega
            rw [this] at k3; cases k3
          split at hb
          · rename_i l hf
            rw [Heap.new_eq] at hb
            cases hb
            obtain ⟨d1, r1, _, m1⟩ := run_under (P := P) hT hti w
            rw [mkTD_slice (m1.trans hd)] at r1
            obtain ⟨z, hzr, hzc⟩ := run_zeroValue (P := P) hT hte w
            have hz0 : z.cells.size = te.size := by rw [← Array.length_toList, hzc, k2]
            let arr0 : Array Value := if len * te.size = 0 then (Array.range (len * te.size)).map (fun _ => default) else (Array.range (len * te.size)).map (z.cells[· % z.cells.size]!)
            have hl0 : LRel ρ ((List.range (len * te.size)).map fun j => AV.lit (te.zero[j % te.zero.length]?.getD default)) arr0.toList := by
              refine LRel.of_get (by simp only [arr0]; split <;> simp) fun k a ha => ?_
              rw [List.getElem?_map] at ha
              cases hk : (List.range (len * te.size))[k]? with
              | none => rw [hk] at ha; cases ha
              | some j =>
                rw [hk] at ha; simp only [Option.map_some, Option.some.injEq] at ha; subst ha
                obtain ⟨hlt, hj⟩ := List.getElem?_eq_some_iff.1 hk
                simp at hlt hj; subst hj
                have hne : ¬ len * te.size = 0 := by omega
                have hm : k % z.cells.size < z.cells.size := Nat.mod_lt _ (by omega)
                refine ⟨te.zero[k % te.zero.length]?.getD default, ?_, by simp only [VRel]⟩
                simp only [arr0, if_neg hne, Array.getElem?_toList, Array.getElem?_map, Array.getElem?_range, hlt, if_true, Option.map_some, Option.some.injEq]
                rw [← hzc, Array.length_toList, Array.getElem?_toList]
                simp [hm]
            obtain ⟨arr', hfill, hr⟩ := fillA_ok ps us.toList _ l arr0 hf hp hl0
            obtain ⟨ρ', h1, h2, h3, h4, h5⟩ := hR.push_cells (e := e) (c := .av l) (arr := arr') (by rw [← Array.length_toList, ← hr.length]; rfl) (by simpa using CRel.av hr)
            refine ⟨.slice (some ⟨w.heap.size, 0, none⟩) len len, _, ρ', ?_, h3, h1, by simp, h4, by simp only [VRel]; exact ⟨_, h2, rfl⟩, h5⟩
            simp only [Instr.buildSlice, Sem.run_bind, r1, Result.andThen_ok, run_sizeOf hT hte, Sem.run_ite]
            rw [if_neg k3]
            by_cases hn0 : len * te.size = 0
            · simp only [if_pos hn0, Sem.run_pure, Result.andThen_ok]
              have : arr0 = (Array.range (len * te.size)).map (fun x => (#[] : Array Value)[x % (#[] : Array Value).size]!) := by
                simp only [arr0, if_pos hn0]; congr 1
              rw [← this, hfill]
              simp only [newRow, Sem.run_bind, run_newObj, Sem.run_pure, Result.andThen_ok]
              rfl
            · simp only [if_neg hn0, hzr, Sem.run_pure, Result.andThen_ok]
              have : arr0 = (Array.range (len * te.size)).map (z.cells[· % z.cells.size]!) := by simp only [arr0, if_neg hn0]
              rw [← this, hfill]
              simp only [newRow, Sem.run_bind, run_newObj, Sem.run_pure, Result.andThen_ok]
              rfl
          · cases hb
      · cases hb
    · cases hb
  · cases hb
end Go.Proofs.YtpbdlibgbkhlhaaGreat.SE
