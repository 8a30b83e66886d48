/- Views: what a function reads alone, told of a memory of its own. -/
import Derived.Test.YtpbdlibgbkhlhaaGreatV11
import Derived.Test.YtpbdlibgbkhlhaaGreatE20
namespace Go.Proofs.YtpbdlibgbkhlhaaGreat.SE
open Go
set_option maxRecDepth 4000

theorem Rel.block {h : Heap} {ρ : Ren} {T : Nat → Prop} {w : World} (hR : Rel h ρ T w) {i : Nat} {ob : AObj} {c : Cs} {a : Loc} (hi : h.get i = some ob) (hc : ob.conts = some c) (ha : ρ i = some a) :
    c.size = 0 ∨ ∃ arr e f, w.heap[a.blk]? = some (.cells arr e f) ∧ CRel ρ c arr a.base := by
  obtain ⟨S, h1, _⟩ := hR
  obtain ⟨a', ha', ho⟩ := h1 i ob hi
  obtain rfl : a' = a := Option.some.inj (ha'.symm.trans ha)
  cases ob <;> simp [AObj.conts] at hc
  case cells e c' =>
    subst hc
    obtain ⟨h0, hS, arr, hb, hsz, _, hcr⟩ := ho
    exact .inr ⟨arr, e, _, hb, by rw [h0]; exact hcr⟩
  case room e c' =>
    subst hc
    obtain ⟨h0, hS, arr, hb, hsz, _, hcr⟩ := ho
    exact .inr ⟨arr, e, _, hb, by rw [h0]; exact hcr⟩
  case ro c' =>
    subst hc
    rcases ho with h0 | ⟨hT, arr, e, f, hb, hcr⟩
    · exact .inl h0
    · exact .inr ⟨arr, e, f, hb, hcr⟩
theorem CRel.seg {ρ : Ren} {c d : Cs} {o m b : Nat} {arr : Array Value} (hs : Cs.Seg c o m d) (h : CRel ρ c arr b) : CRel ρ d arr (b + o) := fun k v hk => by
  have hkm : k < m := by rw [← hs.1]; exact Cs.get_lt hk
  rw [Nat.add_assoc]
  exact h _ _ (by rw [← (hs.2 k hkm).1]; exact hk)

/-- A slice of these elements lies there. -/
def ViewAt (w : World) (m : Nat) (new : NewEl) (v : Value) : Prop :=
  ∃ a : Loc, (∀ (ρ : Ren) i, ρ i = some a → VRel ρ (.slR i 0 m new.len) v) ∧ (new.len * m = 0 ∨ ∃ arr e f, w.heap[a.blk]? = some (.cells arr e f) ∧ ∀ ρ, CRel ρ (.row m new.len new.el []) arr a.base)
theorem crel_row {ρ ρ' : Ren} {m n : Nat} {g : Nat → List Value} {wr : List (Nat × List Value)} {arr : Array Value} {b : Nat} (h : CRel ρ (.row m n g wr) arr b) : CRel ρ' (.row m n g wr) arr b := fun k v hk => by
  obtain ⟨u, hu, hr⟩ := h k v hk
  refine ⟨u, hu, ?_⟩
  simp only [Cs.get] at hk
  cases hb : Nat.blt k (n * m) with
  | false => rw [hb] at hk; simp at hk
  | true =>
    rw [hb] at hk; simp only [cond_true] at hk
    split at hk
    · cases hk; simpa only [VRel] using hr
    · cases hk; simp only [VRel]
theorem view_many {h : Heap} {ρ : Ren} {T : Nat → Prop} {w : World} {j q m n c p : Nat} {a : Loc} {ob : AObj} {N : Nat} {g : Nat → List Value} {wr : List (Nat × List Value)} (hR : Rel h ρ T w) (hm : 0 < m) (hi : h.get j = some ob) (hc : ob.conts = some (.row m N g wr)) (ha : ρ j = some a)
    (hle : q + n ≤ N) (hnc : n ≤ c) (hp : n ≠ 0 → p = a.base + q * m) : ViewAt w m (.many n (fun k => Cs.eff g wr (q + k))) (.slice (some ⟨a.blk, p, none⟩) n c) := by
  refine ⟨⟨a.blk, a.base + q * m, a.lim⟩, fun ρ0 i h0 => ?_, ?_⟩
  · simp only [VRel, NewEl.len]
    exact .inr ⟨_, p, c, h0, rfl, hnc, fun hn => by simp only [Nat.zero_mul, Nat.add_zero]; exact hp hn⟩
  · simp only [NewEl.len, NewEl.el]
    rcases hR.block hi hc ha with h0 | ⟨arr, e, f, hb, hcr⟩
    · simp only [Cs.size] at h0
      left
      rcases Nat.mul_eq_zero.1 h0 with h1 | h1
      · have : n = 0 := by omega
        rw [this, Nat.zero_mul]
      · rw [h1, Nat.mul_zero]
    · exact .inr ⟨arr, e, f, hb, fun ρ' => crel_row (CRel.seg (row_seg (n := n) hm hle) hcr)⟩
theorem view_few {h : Heap} {ρ : Ren} {T : Nat → Prop} {w : World} {j o m n c : Nat} {a : Loc} {ob : AObj} {cc d : Cs} {vs : List Value} (hR : Rel h ρ T w) (hm : 0 < m) (hi : h.get j = some ob) (hc : ob.conts = some cc) (ha : ρ j = some a)
    (hs : cc.sub o (n * m) = some d) (hd : ∀ k, d.get k = (Cs.raw vs).get k) (hnc : n ≤ c) : ViewAt w m (.few (chunk m n vs)) (.slice (some ⟨a.blk, a.base + o, none⟩) n c) := by
  have e : (NewEl.few (chunk m n vs)).len = n := chunk_length m n vs
  have hs2 := Cs.sub_spec hs
  refine ⟨⟨a.blk, a.base + o, a.lim⟩, fun ρ0 i h0 => ?_, ?_⟩
  · simp only [VRel, e]
    exact .inr ⟨_, _, c, h0, rfl, hnc, fun _ => by simp⟩
  · rw [e]
    by_cases hz : n * m = 0
    · exact .inl hz
    rcases hR.block hi hc ha with h0 | ⟨arr, e, f, hb, hcr⟩
    · have := hs2.1; omega
    · refine .inr ⟨arr, e, f, hb, fun ρ' k y hk => ?_⟩
      have h3 := CRel.seg hs2.2 hcr
      have hlt := Cs.get_lt hk
      simp only [Cs.size] at hlt
      simp only [Cs.get, nblt_iff.2 hlt, cond_true, Cs.eff, NewEl.el] at hk
      have hkn : k / m < n := Nat.div_lt_of_lt_mul (by rw [Nat.mul_comm]; exact hlt)
      rw [chunk_get m n _ vs hkn, List.getElem?_take, if_pos (Nat.mod_lt _ hm), List.getElem?_drop, Nat.div_add_mod'] at hk
      obtain ⟨_, y0, hy0⟩ := hs2.2.2 k hlt
      have hk0 := (hs2.2.2 k hlt).1
      split at hk
      · rename_i x hx
        cases hk
        obtain ⟨u, hu, hr⟩ := h3 k (.lit x) (by rw [hd]; simp only [Cs.get, hx])
        exact ⟨u, hu, by simpa only [VRel] using hr⟩
      · cases hk
        obtain ⟨u, hu, _⟩ := h3 k y0 (by rw [hk0]; exact hy0)
        exact ⟨u, hu, by simp only [VRel]⟩
def vView (h : Heap) (x : AV) (m : Nat) (Q : NewEl → Prop) : Prop := match x with
  | .lit (.slice none 0 c) => bif Nat.beq c 0 then Q (.few []) else False
  | .lit _ => False
  | x => bif lenCap x then vNew h (nrm x) m Q else False
where
  /-- It is no longer than it may be. -/
  lenCap : AV → Bool
    | .sl _ _ n c => Nat.ble n c
    | _ => true
theorem vView_ok {h : Heap} {ρ : Ren} {T : Nat → Prop} {w : World} {x : AV} {v : Value} {m : Nat} {Q : NewEl → Prop} (hR : Rel h ρ T w) (hm : 0 < m) (hq : vView h x m Q) (hv : VRel ρ x v) : ∃ new, ViewAt w m new v ∧ Q new := by
  unfold vView at hq
  split at hq
  · rename_i c
    cases hb : Nat.beq c 0 with
    | false => rw [hb] at hq; exact hq.elim
    | true =>
      rw [hb] at hq
      have := Nat.eq_of_beq_eq_true hb; subst this
      simp only [VRel] at hv; subst hv
      exact ⟨.few [], ⟨⟨0, 0, 0⟩, fun ρ0 i h0 => by simp [VRel, NewEl.len], .inl (by simp [NewEl.len])⟩, hq⟩
  · exact hq.elim
  rename_i hnl1 hnl2
  cases hcap : vView.lenCap x with
  | false => rw [hcap] at hq; exact hq.elim
  | true =>
  rw [hcap] at hq; simp only [cond_true] at hq
  have hcap : vView.lenCap (nrm x) = true := by cases x <;> exact hcap
  have hnl1 : ∀ c, nrm x = .lit (.slice none 0 c) → False := by cases x <;> first | exact hnl1 | (intro c h; cases h)
  have hnl2 : ∀ v, nrm x = .lit v → False := by cases x <;> first | exact hnl2 | (intro c h; cases h)
  have hv := nrm_rel hv
  generalize nrm x = x at hq hcap hnl1 hnl2 hv
  unfold vNew at hq
  split at hq
  · rename_i j o n c
    simp only [VRel] at hv
    obtain ⟨a, ha, rfl⟩ := hv
    have hnc : n ≤ c := Nat.le_of_ble_eq_true hcap
    cases hb : (Nat.beq o 0 && Nat.beq (rowM h j) m) with
    | true =>
      rw [hb] at hq; simp only [cond_true] at hq
      simp only [Bool.and_eq_true] at hb
      have := Nat.eq_of_beq_eq_true hb.1; subst this
      obtain ⟨ob, N, g, wr, hi, hc, hle, hq⟩ := rowOf_ok hq
      exact ⟨_, view_many hR hm hi hc ha (by omega) hnc (fun _ => by simp), hq⟩
    | false =>
      rw [hb] at hq; simp only [cond_false] at hq
      split at hq
      · rename_i ob hi
        split at hq
        · rename_i c' hc
          split at hq
          · rename_i l hsub
            split at hq
            · rename_i vs hvs
              have := litsOf_spec hvs; subst this
              exact ⟨_, view_few hR hm hi hc ha hsub (fun k => by simp only [Cs.get, List.getElem?_map]; cases vs[k]? <;> rfl) hnc, hq⟩
            · exact hq.elim
          · rename_i vs hsub
            exact ⟨_, view_few hR hm hi hc ha hsub (fun k => rfl) hnc, hq⟩
          · exact hq.elim
        · exact hq.elim
      · exact hq.elim
  · rename_i j q m' n c
    cases hb : Nat.beq m m' with
    | false => rw [hb] at hq; exact hq.elim
    | true =>
      rw [hb] at hq; simp only [cond_true] at hq
      have := Nat.eq_of_beq_eq_true hb; subst this
      simp only [VRel] at hv
      obtain ⟨a, p, ha, rfl, hnc, hp⟩ := hv
      obtain ⟨ob, N, g, wr, hi, hc, hle, hq⟩ := rowOf_ok hq
      exact ⟨_, view_many hR hm hi hc ha hle hnc (fun hn => hp (by omega)), hq⟩
  · rename_i j q m' n
    cases hb : Nat.beq m m' with
    | false => rw [hb] at hq; exact hq.elim
    | true =>
      rw [hb] at hq; simp only [cond_true] at hq
      have := Nat.eq_of_beq_eq_true hb; subst this
      simp only [VRel] at hv
      obtain ⟨a, p, c, ha, rfl, hnc, hp⟩ := hv
      obtain ⟨ob, N, g, wr, hi, hc, hle, hq⟩ := rowOf_ok hq
      exact ⟨_, view_many hR hm hi hc ha hle hnc (fun hn => (hp (by omega)).1), hq⟩
  · rename_i j q m' n
    cases hb : Nat.beq m m' with
    | false => rw [hb] at hq; exact hq.elim
    | true =>
      rw [hb] at hq; simp only [cond_true] at hq
      have := Nat.eq_of_beq_eq_true hb; subst this
      simp only [VRel] at hv
      obtain ⟨ob, N, g, wr, hi, hc, hle, hq⟩ := rowOf_ok hq
      rcases hv with ⟨rfl, rfl⟩ | ⟨a, p, c, ha, rfl, hnc, hp⟩
      · exact ⟨_, ⟨⟨0, 0, 0⟩, fun ρ0 i h0 => by simp [VRel, NewEl.len], .inl (by simp [NewEl.len])⟩, hq⟩
      · exact ⟨_, view_many hR hm hi hc ha hle hnc hp, hq⟩
  · exact (hnl2 _ rfl).elim
  · exact (hnl2 _ rfl).elim
  · exact hq.elim

theorem Rel.fresh {h : Heap} {ρ : Ren} {T : Nat → Prop} {w w' : World} (hR : Rel h ρ T w) (hk : Keeps (fun b => w.heap.size ≤ b) w w') : Rel h ρ T w' ∧ Keeps T w w' := by
  obtain ⟨S, h1, h2, h3, h4, h5⟩ := hR
  have hsame : ∀ b, b < w.heap.size → w'.heap[b]? = w.heap[b]? := fun b hb => hk.block b (by omega)
  refine ⟨⟨S, fun i o hi => ?_, h2, fun i o b hi hs => ⟨(h3 i o b hi hs).1, Nat.lt_of_lt_of_le (h3 i o b hi hs).2 hk.size⟩, h4, fun b hb => h5 b (Nat.le_trans hk.size hb)⟩, ⟨hk.size, hk.os, hk.tape, hk.output, fun b hb => hsame b (by
    rcases Nat.lt_or_ge b w.heap.size with h | h
    · exact h
    · exact (hb (h5 b h)).elim)⟩⟩
  obtain ⟨a, ha, ho⟩ := h1 i o hi
  refine ⟨a, ha, ho.stays fun b hb => hsame b ?_⟩
  rcases hb with hb | hb
  · exact (h3 i o b hi hb).2
  · rcases Nat.lt_or_ge b w.heap.size with h | h
    · exact h
    · exact (hb (h5 b h)).elim
/-- A call that reads alone, its answer without pointers. -/
theorem sp_view {P : Program} {f : FuncId} {args args0 : List AV} {h : Heap} (m : Nat) (os : List AObj) {r : AV} {K0 : AV → Heap → Prop} (hs : Sp P f args0 (hO m os) K0) (hK : ∀ v h', K0 v h' → v = r) (hm : os.length = m) (hr : ∀ ρ ρ' u, VRel ρ r u → VRel ρ' r u)
    (hview : ∀ ρ T w vs, Rel h ρ T w → LRel ρ args vs → ∃ as, HoldsAll w (fun b => w.heap.size ≤ b) (renOf as) os as ∧ LRel (renOf as) args0 vs) : Sp P f args h (fun v h' => v = r ∧ h' = h) := by
  subst hm
  refine ⟨hs.1, fun ρ T w vs hR hl => ?_⟩
  obtain ⟨as, hh, hl0⟩ := hview ρ T w vs.toList hR hl
  obtain ⟨g1, g2⟩ := hh.get
  have hR0 : Rel (hOf os) (renOf as) (fun b => w.heap.size ≤ b) w := by
    refine ⟨fun _ _ => False, fun i o hi => ?_, fun _ _ _ _ _ _ _ _ h => h.elim, fun _ _ _ _ h => h.elim, fun i hi => ?_, fun _ h => h⟩
    · rw [hOf_get] at hi
      exact g2 i o hi
    · rw [hOf_next] at hi
      simp only [renOf]
      rw [List.getElem?_eq_none]; omega
  refine (hs.2 _ _ w vs hR0 hl0).mono ?_
  rintro e w' ⟨ρ', v, u, h', _, _, _, hu, rfl, hk, hKv⟩
  have := hK _ _ hKv
  subst this
  obtain ⟨a1, a2⟩ := hR.fresh hk
  exact ⟨ρ, v, u, h, fun _ _ => rfl, Nat.le_refl _, a1, hr _ _ _ hu, rfl, a2, rfl, rfl⟩
/-- It holds no pointer. -/
def litsOnly : AV → Bool
  | .lit _ => true
  | .agg l => l.all isLit
  | .tup l => l.all isLit
  | _ => false
where isLit : AV → Bool
  | .lit _ => true
  | _ => false
theorem lrel_lits {ρ ρ' : Ren} : ∀ {l : List AV} {us : List Value}, l.all litsOnly.isLit = true → LRel ρ l us → LRel ρ' l us
  | [], us, _, h => by simpa [LRel] using h
  | a :: l, us, hl, h => by
    simp only [List.all_cons, Bool.and_eq_true] at hl
    simp only [LRel] at h ⊢
    obtain ⟨v, vs', rfl, h1, h2⟩ := h
    refine ⟨v, vs', rfl, ?_, lrel_lits hl.2 h2⟩
    cases a <;> simp [litsOnly.isLit] at hl
    simpa only [VRel] using h1
theorem litsOnly_ok {r : AV} (h : litsOnly r = true) (ρ ρ' : Ren) (u : Value) (hu : VRel ρ r u) : VRel ρ' r u := by
  cases r <;> simp only [litsOnly, Bool.false_eq_true] at h
  · simpa only [VRel] using hu
  · simp only [VRel] at hu ⊢; obtain ⟨vs, rfl, hl⟩ := hu; exact ⟨vs, rfl, lrel_lits h hl⟩
  · simp only [VRel] at hu ⊢; obtain ⟨vs, rfl, hl⟩ := hu; exact ⟨vs, rfl, lrel_lits h hl⟩
/-- A view of one slice. -/
theorem holds_view {w : World} {m : Nat} {new : NewEl} {v : Value} (hv : ViewAt w m new v) {n : Nat} {g : Nat → List Value} (hn : new.len = n) (hg : ∀ k, k < n → new.el k = g k) : ∃ a : Loc, (∀ (ρ : Ren) i, ρ i = some a → VRel ρ (.slR i 0 m n) v) ∧ ∀ ρ, OHolds ρ w (fun b => w.heap.size ≤ b) a (fun _ => False) (.ro (.row m n g [])) := by
  subst hn
  obtain ⟨a, h1, h2⟩ := hv
  refine ⟨a, h1, fun ρ => ?_⟩
  rcases h2 with h2 | ⟨arr, e, f, hb, hc⟩
  · exact .inl h2
  · refine .inr ⟨fun hle => ?_, arr, e, f, hb, fun k x hk => ?_⟩
    · have := (Array.getElem?_eq_some_iff.1 hb).1; omega
    · refine hc ρ k x ?_
      have hlt := Cs.get_lt hk
      simp only [Cs.size] at hlt
      rw [← hk]
      simp only [Cs.get, nblt_iff.2 hlt, cond_true, Cs.eff, hg _ (Nat.div_lt_of_lt_mul (by rw [Nat.mul_comm]; exact hlt))]
theorem lrel_plain {ρ ρ' : Ren} : ∀ {l : List AV} {us : List Value}, l.all litsOnly = true → LRel ρ l us → LRel ρ' l us
  | [], us, _, h => by simpa [LRel] using h
  | a :: l, us, hl, h => by
    simp only [List.all_cons, Bool.and_eq_true] at hl
    simp only [LRel] at h ⊢
    obtain ⟨v, vs', rfl, h1, h2⟩ := h
    exact ⟨v, vs', rfl, litsOnly_ok hl.1 _ _ _ h1, lrel_plain hl.2 h2⟩
/-- A call of plain values, its answer plain. -/
theorem sp_plain {P : Program} {f : FuncId} {args : List AV} (h : Heap) {r : AV} {K0 : AV → Heap → Prop} (hs : Sp P f args (hO 0 []) K0) (hK : ∀ v h', K0 v h' → v = r) (ha : args.all litsOnly = true) (hr : litsOnly r = true) : Sp P f args h (fun v h' => v = r ∧ h' = h) :=
  sp_view 0 [] hs hK rfl (litsOnly_ok hr) fun _ _ _ _ _ hl => ⟨[], trivial, lrel_plain ha hl⟩
/-- A call of one slice that it reads alone. What is read is known only when the memory is. -/
theorem sp_slice {P : Program} {f : FuncId} {x : AV} {h : Heap} {m : Nat} {new : NewEl → Prop} {K : AV → Heap → Prop} (hc : Callable P f) (hm : 0 < m) (hq : vView h x m new)
    (hs : ∀ e, new e → ∃ n g r, e.len = n ∧ (∀ k, k < n → e.el k = g k) ∧ litsOnly r = true ∧ K r h ∧ Sp P f [.slR 0 0 m n] (hO 1 [.ro (.row m n g [])]) (fun v _ => v = r)) : Sp P f [x] h K := by
  refine ⟨hc, fun ρ T w vs hR hl => ?_⟩
  simp only [LRel] at hl
  obtain ⟨v, vs', hvs, hv, rfl⟩ := hl
  obtain ⟨e, hva, he⟩ := vView_ok hR hm hq hv
  obtain ⟨n, g, r, hn, hg, hr, hK, hsp⟩ := hs e he
  obtain ⟨a, ha1, ha2⟩ := holds_view hva hn hg
  have hR0 : Rel (hOf [.ro (.row m n g [])]) (renOf [a]) (fun b => w.heap.size ≤ b) w := by
    refine ⟨fun _ _ => False, fun i o hi => ?_, fun _ _ _ _ _ _ _ _ h => h.elim, fun _ _ _ _ h => h.elim, fun i hi => ?_, fun _ h => h⟩
    · rw [hOf_get] at hi
      cases i with
      | zero => simp at hi; subst hi; exact ⟨a, rfl, ha2 _⟩
      | succ i => simp at hi
    · rw [hOf_next] at hi
      simp only [renOf]
      rw [List.getElem?_eq_none]; simpa using hi
  refine (hsp.2 _ _ w vs hR0 (by rw [hvs]; simp only [LRel]; exact ⟨v, [], rfl, ha1 _ 0 rfl, rfl⟩)).mono ?_
  rintro e' w' ⟨ρ', v', u, h', _, _, _, hu, rfl, hk, hKv⟩
  subst hKv
  obtain ⟨a1, a2⟩ := hR.fresh hk
  exact ⟨ρ, v', u, h, fun _ _ => rfl, Nat.le_refl _, a1, litsOnly_ok hr _ _ _ hu, rfl, a2, hK⟩
end Go.Proofs.YtpbdlibgbkhlhaaGreat.SE
