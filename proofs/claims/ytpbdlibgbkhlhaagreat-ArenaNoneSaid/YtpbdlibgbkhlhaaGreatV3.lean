/- Operations that turn memory, on values of which not all is known. -/
import Derived.Test.YtpbdlibgbkhlhaaGreatV2
namespace Go.Proofs.YtpbdlibgbkhlhaaGreat.SE
open Go

theorem row_known {m n k : Nat} {g : Nat → List Value} {wr : List (Nat × List Value)} (hk : k < n * m) : ∃ v, (Cs.row m n g wr).get k = some v := by
  simp only [Cs.get, nblt_iff.2 hk, cond_true]
  split
  · exact ⟨_, rfl⟩
  · exact ⟨_, rfl⟩
/-- A part of a row. -/
theorem row_seg {m N q n : Nat} {g : Nat → List Value} {wr : List (Nat × List Value)} (hm : 0 < m) (h : q + n ≤ N) : Cs.Seg (.row m N g wr) (q * m) (n * m) (.row m n (fun k => Cs.eff g wr (q + k)) []) := by
  refine ⟨rfl, fun k hk => ?_⟩
  have hlt : q * m + k < N * m := by
    have : (q + n) * m ≤ N * m := Nat.mul_le_mul_right _ h
    rw [Nat.add_mul] at this; omega
  have e1 : (q * m + k) / m = q + k / m := by rw [Nat.mul_comm, Nat.mul_add_div hm]
  have e2 : (q * m + k) % m = k % m := by rw [Nat.mul_comm, Nat.mul_add_mod]
  refine ⟨?_, row_known hlt⟩
  simp only [Cs.get, nblt_iff.2 hk, nblt_iff.2 hlt, cond_true, e1, e2, Cs.eff]

theorem loadCells_Seg {P : Program} {h : Heap} {ρ : Ren} {T : Nat → Prop} {w : World} (hR : Rel h ρ T w) {i o m : Nat} {ob : AObj} {c d : Cs} {a : Loc} (hi : h.get i = some ob) (hc : ob.conts = some c)
    (hs : Cs.Seg c o m d) (ha : ρ i = some a) : ∃ vs : Array Value, (loadCells ⟨a.blk, a.base + o, none⟩ m).run P w = .ok vs w ∧ vs.size = d.size ∧ CRel ρ d vs 0 := by
  obtain ⟨hsz, hseg⟩ := hs
  have hcell : ∀ k, cellAt h i k = c.get k := fun k => by simp [cellAt, hi, hc]
  obtain ⟨l, hl, hlen, hget⟩ := getN_of (h := h) (i := i) m o (fun k hk => by rw [hcell]; exact (hseg k hk).2)
  obtain ⟨vs, hvs, hlr⟩ := run_loadCellsFrom (P := P) hR ha o m 0 #[] l (by simpa using hl)
  refine ⟨vs.toArray, by simpa [loadCells] using hvs, by simp [← hlr.length, hlen, hsz], fun k v hk => ?_⟩
  have hkm : k < m := by rw [← hsz]; exact Cs.get_lt hk
  have : l[k]? = some v := by rw [hget k hkm, hcell, ← (hseg k hkm).1, hk]
  obtain ⟨u, hu, hr⟩ := hlr.get k v this
  exact ⟨u, by simpa using hu, hr⟩

/-! ### What is appended -/
inductive NewEl where
  | few (L : List (List Value))
  | many (n : Nat) (g : Nat → List Value)
namespace NewEl
def len : NewEl → Nat
  | .few L => L.length
  | .many n _ => n
def el : NewEl → Nat → List Value
  | .few L => fun k => L.getD k []
  | .many _ g => g
/-- Each is of m cells, each of them one. -/
def ones (m : Nat) : NewEl → Prop
  | .few L => L.all (fun l => Nat.beq l.length m && l.all Value.oneCell') = true
  | .many n g => ∀ k, k < n → (Nat.beq (g k).length m && (g k).all Value.oneCell') = true
theorem ones_el {m : Nat} {e : NewEl} (h : e.ones m) : ∀ k, k < e.len → (Nat.beq (e.el k).length m && (e.el k).all Value.oneCell') = true := by
  cases e with
  | few L =>
    intro k hk
    simp only [ones, List.all_eq_true] at h
    simp only [el, len] at hk ⊢
    rw [List.getD_eq_getElem?_getD, List.getElem?_eq_getElem hk]
    exact h _ (List.getElem_mem hk)
  | many n g => exact h
end NewEl
def chunk (m : Nat) : Nat → List Value → List (List Value)
  | 0, _ => []
  | n + 1, vs => vs.take m :: chunk m n (vs.drop m)
theorem chunk_length (m : Nat) : ∀ (n : Nat) (vs : List Value), (chunk m n vs).length = n
  | 0, _ => rfl
  | n + 1, vs => by simp [chunk, chunk_length m n]
theorem chunk_get (m : Nat) : ∀ (n k : Nat) (vs : List Value), k < n → (chunk m n vs).getD k [] = (vs.drop (k * m)).take m
  | 0, k, vs, h => by omega
  | n + 1, 0, vs, h => by simp [chunk]
  | n + 1, k + 1, vs, h => by
    simp only [chunk, List.getD_cons_succ]
    rw [chunk_get m n k _ (by omega), List.drop_drop]
    congr 2; rw [Nat.add_mul]; omega

/-- A row's contents, if it is one. -/
def rowOf (h : Heap) (i m : Nat) (Q : Nat → (Nat → List Value) → List (Nat × List Value) → Prop) : Prop := match h.get i with
  | some ob => match ob.conts with
    | some (.row m' n g wr) => bif Nat.beq m m' then Q n g wr else False
    | _ => False
  | none => False
theorem rowOf_ok {h : Heap} {i m : Nat} {Q : Nat → (Nat → List Value) → List (Nat × List Value) → Prop} (hq : rowOf h i m Q) : ∃ ob n g wr, h.get i = some ob ∧ ob.conts = some (.row m n g wr) ∧ Q n g wr := by
  unfold rowOf at hq
  split at hq
  · rename_i ob hi
    split at hq
    · rename_i m' n g wr hc
      cases hb : Nat.beq m m' with
      | false => rw [hb] at hq; exact hq.elim
      | true =>
        rw [hb] at hq; simp only [cond_true] at hq
        have := Nat.eq_of_beq_eq_true hb; subst this
        exact ⟨ob, n, g, wr, hi, hc, hq⟩
    · exact hq.elim
  · exact hq.elim

def vNew (h : Heap) (x : AV) (m : Nat) (Q : NewEl → Prop) : Prop :=
  match x with
  | .sl j o n _ => bif Nat.beq o 0 && Nat.beq (rowM h j) m then rowOf h j m fun N g wr => n ≤ N ∧ Q (.many n (fun k => Cs.eff g wr (0 + k))) else (match h.get j with
    | some ob => match ob.conts with
      | some c => match c.sub o (n * m) with
        | some (.av l) => match litsOf l with
          | some vs => Q (.few (chunk m n vs))
          | none => False
        | some (.raw vs) => Q (.few (chunk m n vs))
        | _ => False
      | none => False
    | none => False)
  | .slE j q m' n _ => bif Nat.beq m m' then rowOf h j m fun N g wr => q + n ≤ N ∧ Q (.many n (fun k => Cs.eff g wr (q + k))) else False
  | .slW j q m' n => bif Nat.beq m m' then rowOf h j m fun N g wr => q + n ≤ N ∧ Q (.many n (fun k => Cs.eff g wr (q + k))) else False
  | .slR j q m' n => bif Nat.beq m m' then rowOf h j m fun N g wr => q + n ≤ N ∧ Q (.many n (fun k => Cs.eff g wr (q + k))) else False
  | .lit (.slice none 0 _) => Q (.few [])
  | .lit (.string s) => bif Nat.beq m 1 then Q (.many s.size (fun k => [.int .u8 (strAt s k)])) else False
  | _ => False

/-- What is told of new elements: how many they are, and that they are read so. -/
def NewOk (P : Program) (h : Heap) (ρ : Ren) (T : Nat → Prop) (m : Nat) (v : Value) (new : NewEl) : Prop :=
  (∀ w, (Builtin.lenOf v).run P w = .ok new.len w) ∧ ∀ w, Rel h ρ T w → ∃ vs : Array Value, (Builtin.firstCells m new.len v).run P w = .ok vs w ∧ vs.size = new.len * m ∧ CRel ρ (.row m new.len new.el []) vs 0

theorem seg_many {P : Program} {h : Heap} {ρ : Ren} {T : Nat → Prop} {j q m n c p : Nat} {a : Loc} {ob : AObj} {N : Nat} {g : Nat → List Value} {wr : List (Nat × List Value)} (hm : 0 < m) (hi : h.get j = some ob) (hc : ob.conts = some (.row m N g wr)) (ha : ρ j = some a)
    (hle : q + n ≤ N) (hp : n ≠ 0 → p = a.base + q * m) : NewOk P h ρ T m (.slice (some ⟨a.blk, p, none⟩) n c) (.many n (fun k => Cs.eff g wr (q + k))) := by
  refine ⟨fun w => by simp [Builtin.lenOf, NewEl.len], fun w hR => ?_⟩
  by_cases hn : n = 0
  · subst hn
    exact ⟨#[], by simp [Builtin.firstCells, NewEl.len, loadCells, loadCellsFrom], by simp [NewEl.len], fun k v hk => by have := Cs.get_lt hk; simp [Cs.size, NewEl.len] at this⟩
  · obtain ⟨vs, h1, h2, h3⟩ := loadCells_Seg (P := P) hR hi hc (row_seg (n := n) hm hle) ha
    refine ⟨vs, ?_, by simpa [Cs.size, NewEl.len] using h2, h3⟩
    rw [hp hn]
    simpa [Builtin.firstCells, NewEl.len] using h1
theorem seg_few {P : Program} {h : Heap} {ρ : Ren} {T : Nat → Prop} {x : AV} {v : Value} {m n : Nat} {d : Cs} {vs : List Value} (hm : 0 < m) (hs : segOf h x n m = some d) (hv : VRel ρ x v) (hd : ∀ k, d.get k = (Cs.raw vs).get k) (hsz : d.size = n * m) (hlen : ∀ w, (Builtin.lenOf v).run P w = .ok n w) :
    NewOk P h ρ T m v (.few (chunk m n vs)) := by
  have e : (NewEl.few (chunk m n vs)).len = n := chunk_length m n vs
  refine ⟨fun w => by rw [e]; exact hlen w, fun w hR => ?_⟩
  rw [e]
  obtain ⟨us, h1, h2, h3⟩ := firstCells_seg (P := P) hR hs hv
  refine ⟨us, h1, by rw [h2, hsz], fun k y hk => ?_⟩
  have hlt := Cs.get_lt hk
  simp only [Cs.size] at hlt
  simp only [Cs.get, nblt_iff.2 hlt, cond_true, Cs.eff, NewEl.el] at hk
  have hkn : k / m < n := Nat.div_lt_of_lt_mul (by rw [Nat.mul_comm]; exact hlt)
  rw [chunk_get m n _ vs hkn, List.getElem?_take, if_pos (Nat.mod_lt _ hm), List.getElem?_drop, Nat.div_add_mod'] at hk
  split at hk
  · rename_i x hx
    cases hk
    exact h3 k _ (by rw [hd]; simp only [Cs.get, hx])
  · cases hk
    exact ⟨us[k]'(by rw [h2, hsz]; exact hlt), by rw [Nat.zero_add, Array.getElem?_eq_getElem], by simp [VRel]⟩
theorem vNew_ok {P : Program} {h : Heap} {ρ : Ren} {T : Nat → Prop} {x : AV} {v : Value} {m : Nat} {Q : NewEl → Prop} (hm : 0 < m) (hq : vNew h x m Q) (hv : VRel ρ x v) : ∃ new, NewOk P h ρ T m v new ∧ Q new := by
  unfold vNew at hq
  split at hq
  · rename_i j o n c
    have hv' := hv
    simp only [VRel] at hv
    obtain ⟨a, ha, rfl⟩ := hv
    cases hb : (Nat.beq o 0 && Nat.beq (rowM h j) m) with
    | true =>
      rw [hb] at hq; simp only [cond_true] at hq
      simp only [Bool.and_eq_true] at hb
      have := Nat.eq_of_beq_eq_true hb.1; subst this
      obtain ⟨ob, N, g, wr, hi, hc, hle, hq⟩ := rowOf_ok hq
      exact ⟨_, seg_many hm hi hc ha (by omega) (fun _ => by simp), hq⟩
    | false =>
      rw [hb] at hq; simp only [cond_false] at hq
      split at hq
      · rename_i ob hi
        split at hq
        · rename_i c' hc
          have hseg : ∀ d, c'.sub o (n * m) = some d → segOf h (.sl j o n c) n m = some d := fun d hd => by simp [segOf, hi, hc, hd]
          split at hq
          · rename_i l hsub
            split at hq
            · rename_i vs hvs
              have := litsOf_spec hvs; subst this
              exact ⟨_, seg_few hm (hseg _ hsub) hv' (fun k => by simp only [Cs.get, List.getElem?_map]; cases vs[k]? <;> rfl) (Cs.sub_spec hsub).2.1 (fun w => by simp [Builtin.lenOf]), hq⟩
            · exact hq.elim
          · rename_i vs hsub
            exact ⟨_, seg_few hm (hseg _ hsub) hv' (fun k => rfl) (Cs.sub_spec hsub).2.1 (fun w => by simp [Builtin.lenOf]), hq⟩
          · exact hq.elim
        · exact hq.elim
      · exact hq.elim
  · rename_i j q m' n c
    cases hb : Nat.beq m m' with
    | false => rw [hb] at hq; exact hq.elim
    | true =>
      rw [hb] at hq; simp only [cond_true] at hq
      have := Nat.eq_of_beq_eq_true hb; subst this
      simp only [VRel] at hv
      obtain ⟨a, p, ha, rfl, hnc, hp⟩ := hv
      obtain ⟨ob, N, g, wr, hi, hc, hle, hq⟩ := rowOf_ok hq
      exact ⟨_, seg_many hm hi hc ha hle (fun _ => hp (by omega)), hq⟩
  · rename_i j q m' n
    cases hb : Nat.beq m m' with
    | false => rw [hb] at hq; exact hq.elim
    | true =>
      rw [hb] at hq; simp only [cond_true] at hq
      have := Nat.eq_of_beq_eq_true hb; subst this
      simp only [VRel] at hv
      obtain ⟨a, p, c, ha, rfl, hnc, hp⟩ := hv
      obtain ⟨ob, N, g, wr, hi, hc, hle, hq⟩ := rowOf_ok hq
      exact ⟨_, seg_many hm hi hc ha hle (fun _ => (hp (by omega)).1), hq⟩
  · rename_i j q m' n
    cases hb : Nat.beq m m' with
    | false => rw [hb] at hq; exact hq.elim
    | true =>
      rw [hb] at hq; simp only [cond_true] at hq
      have := Nat.eq_of_beq_eq_true hb; subst this
      simp only [VRel] at hv
      obtain ⟨ob, N, g, wr, hi, hc, hle, hq⟩ := rowOf_ok hq
      rcases hv with ⟨rfl, rfl⟩ | ⟨a, p, c, ha, rfl, hnc, hp⟩
      · exact ⟨_, ⟨fun w => by simp [Builtin.lenOf, NewEl.len], fun w _ => ⟨#[], by simp [Builtin.firstCells, NewEl.len], by simp [NewEl.len], fun k v hk => by have := Cs.get_lt hk; simp [Cs.size, NewEl.len] at this⟩⟩, hq⟩
      · exact ⟨_, seg_many hm hi hc ha hle hp, hq⟩
  · simp only [VRel] at hv; subst hv
    exact ⟨_, ⟨fun w => by simp [Builtin.lenOf, NewEl.len], fun w _ => ⟨#[], by simp [Builtin.firstCells], by simp [NewEl.len], fun k v hk => by have := Cs.get_lt hk; simp [Cs.size, NewEl.len] at this⟩⟩, hq⟩
  · rename_i s
    cases hb : Nat.beq m 1 with
    | false => rw [hb] at hq; exact hq.elim
    | true =>
      rw [hb] at hq; simp only [cond_true] at hq
      have := Nat.eq_of_beq_eq_true hb; subst this
      simp only [VRel] at hv; subst hv
      refine ⟨_, ⟨fun w => by simp [Builtin.lenOf, NewEl.len], fun w _ => ⟨(s.extract 0 s.size).data.map fun b => .int .u8 b.toNat, by simp only [Builtin.firstCells, Sem.run_pure, NewEl.len], by simp [NewEl.len], fun k y hk => ?_⟩⟩, hq⟩
      have hlt := Cs.get_lt hk
      simp only [Cs.size, NewEl.len, Nat.mul_one] at hlt
      have hlt2 : Nat.blt k (s.size * 1) = true := nblt_iff.2 (by omega)
      simp only [Cs.get, NewEl.len, hlt2, cond_true, Cs.eff, NewEl.el, Nat.div_one, Nat.mod_one, List.getElem?_cons_zero] at hk
      cases hk
      refine ⟨.int .u8 (strAt s k), ?_, by simp only [VRel]⟩
      have hlt3 : k < s.data.size := hlt
      rw [Nat.zero_add, Array.getElem?_map]
      have e : (s.extract 0 s.size).data[k]? = some s.data[k] := by
        rw [ByteArray.extract_zero_size, Array.getElem?_eq_getElem hlt3]
      simp only [e, Option.map_some, strAt, List.getD_eq_getElem?_getD, Array.getElem?_toList, Array.getElem?_eq_getElem hlt3, Option.getD_some]
  · exact hq.elim

/-! ### append -/
def writes : Nat → List (List Value) → List (Nat × List Value) → List (Nat × List Value)
  | _, [], wr => wr
  | k, c :: L, wr => writes (k + 1) L ((k, c) :: wr)
theorem eff_writes {g : Nat → List Value} : ∀ (L : List (List Value)) (k q : Nat) (wr : List (Nat × List Value)), Cs.eff g (writes k L wr) q = if k ≤ q ∧ q < k + L.length then L.getD (q - k) [] else Cs.eff g wr q
  | [], k, q, wr => by simp only [writes, List.length_nil]; rw [if_neg (by omega)]
  | c :: L, k, q, wr => by
    simp only [writes, List.length_cons]
    rw [eff_writes L (k + 1) q]
    by_cases h1 : q = k
    · subst h1
      rw [if_neg (by omega), if_pos (by omega)]
      simp [Cs.eff]
    · by_cases h2 : k + 1 ≤ q ∧ q < k + 1 + L.length
      · rw [if_pos h2, if_pos (by omega), show q - k = (q - (k + 1)) + 1 by omega, List.getD_cons_succ]
      · rw [if_neg h2, if_neg (by omega)]
        simp [Cs.eff, nbeq_ne h1]
/-- A row, and new elements behind it. -/
def appCs (m n : Nat) (g : Nat → List Value) (wr : List (Nat × List Value)) (new : NewEl) : Cs := match new with
  | .few L => .row m (n + L.length) g (writes n L wr)
  | .many k g' => .row m (n + k) (fun q => bif Nat.blt q n then Cs.eff g wr q else g' (q - n)) []
theorem appCs_spec {m n : Nat} {g : Nat → List Value} {wr : List (Nat × List Value)} {new : NewEl} (hm : 0 < m) : (appCs m n g wr new).size = n * m + new.len * m ∧ (∀ k, k < n * m → (appCs m n g wr new).get k = (Cs.row m n g wr).get k) ∧
    ∀ k, (appCs m n g wr new).get (n * m + k) = (Cs.row m new.len new.el []).get k := by
  have key : ∀ (c : Cs) (N : Nat) (f : Nat → List Value) (wr' : List (Nat × List Value)), c = .row m N f wr' → N = n + new.len → (∀ q, q < n → Cs.eff f wr' q = Cs.eff g wr q) → (∀ q, q < new.len → Cs.eff f wr' (n + q) = new.el q) →
      c.size = n * m + new.len * m ∧ (∀ k, k < n * m → c.get k = (Cs.row m n g wr).get k) ∧ ∀ k, c.get (n * m + k) = (Cs.row m new.len new.el []).get k := by
    rintro c N f wr' rfl rfl h1 h2
    refine ⟨by simp [Cs.size, Nat.add_mul], fun k hk => ?_, fun k => ?_⟩
    · have hk2 : k < (n + new.len) * m := by rw [Nat.add_mul]; omega
      have hq : k / m < n := Nat.div_lt_of_lt_mul (by rw [Nat.mul_comm]; exact hk)
      simp only [Cs.get, nblt_iff.2 hk, nblt_iff.2 hk2, cond_true, h1 _ hq]
    · have e1 : (n * m + k) / m = n + k / m := by rw [Nat.mul_comm, Nat.mul_add_div hm]
      have e2 : (n * m + k) % m = k % m := by rw [Nat.mul_comm, Nat.mul_add_mod]
      by_cases hk : k < new.len * m
      · have hk2 : n * m + k < (n + new.len) * m := by rw [Nat.add_mul]; omega
        have hq : k / m < new.len := Nat.div_lt_of_lt_mul (by rw [Nat.mul_comm]; exact hk)
        simp only [Cs.get, nblt_iff.2 hk, nblt_iff.2 hk2, cond_true, e1, e2, h2 _ hq, Cs.eff]
      · have hk2 : ¬ n * m + k < (n + new.len) * m := by rw [Nat.add_mul]; omega
        have b1 : Nat.blt k (new.len * m) = false := by cases hb : Nat.blt k (new.len * m); · rfl
                                                        · exact absurd (nblt_iff.1 hb) hk
        have b2 : Nat.blt (n * m + k) ((n + new.len) * m) = false := by cases hb : Nat.blt (n * m + k) ((n + new.len) * m); · rfl
                                                                        · exact absurd (nblt_iff.1 hb) hk2
        simp only [Cs.get, b1, b2, cond_false]
  cases new with
  | few L =>
    refine key _ _ g (writes n L wr) rfl rfl (fun q hq => ?_) (fun q hq => ?_)
    · rw [eff_writes, if_neg (by omega)]
    · simp only [NewEl.len] at hq
      rw [eff_writes, if_pos (by omega), show n + q - n = q by omega]; rfl
  | many k g' =>
    refine key _ _ (fun q => bif Nat.blt q n then Cs.eff g wr q else g' (q - n)) [] rfl rfl (fun q hq => ?_) (fun q hq => ?_)
    · simp only [Cs.eff, nblt_iff.2 hq, cond_true]
    · have : Nat.blt (n + q) n = false := by cases hb : Nat.blt (n + q) n; · rfl
                                             · have := nblt_iff.1 hb; omega
      simp only [Cs.eff, this, cond_false, NewEl.el]; congr 1; omega

/-- New elements laid over those of a row from k on. -/
def insCs (m N k : Nat) (g : Nat → List Value) (wr : List (Nat × List Value)) (new : NewEl) : Cs := match new with
  | .few L => .row m N g (writes k L wr)
  | .many n g' => .row m N (fun p => bif Nat.ble k p && Nat.blt p (k + n) then g' (p - k) else Cs.eff g wr p) []
theorem insCs_spec {m N k : Nat} {g : Nat → List Value} {wr : List (Nat × List Value)} {new : NewEl} (hm : 0 < m) (hk : k + new.len ≤ N) : (insCs m N k g wr new).size = N * m ∧
    (∀ p, p < N * m → ¬ (k * m ≤ p ∧ p < k * m + new.len * m) → (insCs m N k g wr new).get p = (Cs.row m N g wr).get p) ∧
    ∀ p, p < new.len * m → (insCs m N k g wr new).get (k * m + p) = (Cs.row m new.len new.el []).get p := by
  have key : ∀ (c : Cs) (f : Nat → List Value) (wr' : List (Nat × List Value)), c = .row m N f wr' → (∀ q, ¬ (k ≤ q ∧ q < k + new.len) → Cs.eff f wr' q = Cs.eff g wr q) → (∀ q, q < new.len → Cs.eff f wr' (k + q) = new.el q) →
      c.size = N * m ∧ (∀ p, p < N * m → ¬ (k * m ≤ p ∧ p < k * m + new.len * m) → c.get p = (Cs.row m N g wr).get p) ∧ ∀ p, p < new.len * m → c.get (k * m + p) = (Cs.row m new.len new.el []).get p := by
    rintro c f wr' rfl h1 h2
    refine ⟨rfl, fun p hp hn => ?_, fun p hp => ?_⟩
    · have hq : ¬ (k ≤ p / m ∧ p / m < k + new.len) := fun ⟨a, b⟩ => hn ⟨by
          have := Nat.mul_le_mul_right m a
          have := Nat.div_mul_le_self p m
          omega, by
          have h3 : p < (p / m + 1) * m := by rw [Nat.add_mul]; have := Nat.div_add_mod' p m; have := Nat.mod_lt p hm; omega
          have h4 : (p / m + 1) * m ≤ (k + new.len) * m := Nat.mul_le_mul_right m b
          rw [Nat.add_mul k] at h4; omega⟩
      simp only [Cs.get, nblt_iff.2 hp, cond_true, h1 _ hq]
    · have hp2 : k * m + p < N * m := by
        have : (k + new.len) * m ≤ N * m := Nat.mul_le_mul_right _ hk
        rw [Nat.add_mul] at this; omega
      have e1 : (k * m + p) / m = k + p / m := by rw [Nat.mul_comm, Nat.mul_add_div hm]
      have e2 : (k * m + p) % m = p % m := by rw [Nat.mul_comm, Nat.mul_add_mod]
      have hq : p / m < new.len := Nat.div_lt_of_lt_mul (by rw [Nat.mul_comm]; exact hp)
      simp only [Cs.get, nblt_iff.2 hp, nblt_iff.2 hp2, cond_true, e1, e2, h2 _ hq, Cs.eff]
  cases new with
  | few L =>
    refine key _ g (writes k L wr) rfl (fun q hq => ?_) (fun q hq => ?_)
    · simp only [NewEl.len] at hq; rw [eff_writes, if_neg hq]
    · simp only [NewEl.len] at hq
      rw [eff_writes, if_pos (by omega), show k + q - k = q by omega]; rfl
  | many n g' =>
    refine key _ (fun p => bif Nat.ble k p && Nat.blt p (k + n) then g' (p - k) else Cs.eff g wr p) [] rfl (fun q hq => ?_) (fun q hq => ?_)
    · have : (Nat.ble k q && Nat.blt q (k + n)) = false := by
        cases hb : (Nat.ble k q && Nat.blt q (k + n)) with
        | false => rfl
        | true => simp only [Bool.and_eq_true, Nat.ble_eq] at hb; exact absurd ⟨hb.1, nblt_iff.1 hb.2⟩ hq
      simp only [Cs.eff, this, cond_false]
    · simp only [NewEl.len] at hq
      have : (Nat.ble k (k + q) && Nat.blt (k + q) (k + n)) = true := by
        simp only [Bool.and_eq_true, Nat.ble_eq]; exact ⟨by omega, nblt_iff.2 (by omega)⟩
      simp only [Cs.eff, this, cond_true, NewEl.el]; congr 1; omega
/-- Cells laid over a row of one's own. -/
theorem run_storeCells_ins {P : Program} {h : Heap} {ρ : Ren} {T : Nat → Prop} {w : World} (hR : Rel h ρ T w) {i m N k : Nat} {ob : AObj} {g : Nat → List Value} {wr : List (Nat × List Value)} {a : Loc} {cs : List Value} {new : NewEl} (hm : 0 < m)
    (hi : h.get i = some ob) (hrow : isOwnRow ob = true) (hc : ob.conts = some (.row m N g wr)) (ha : ρ i = some a) (hk : k + new.len ≤ N) (hl : cs.length = new.len * m) (h1 : ∀ u ∈ cs, u.oneCell' = true) (hcs : CRel ρ (.row m new.len new.el []) cs.toArray 0) :
    ∃ w', (storeCells ⟨a.blk, a.base + k * m, none⟩ cs).run P w = .ok () w' ∧ Rel (h.set i (withC ob (insCs m N k g wr new))) ρ T w' ∧ Keeps T w w' := by
  obtain ⟨q1, q2, q3⟩ := insCs_spec (m := m) (N := N) (k := k) (g := g) (wr := wr) (new := new) hm hk
  have hKM : k * m + new.len * m ≤ N * m := by rw [← Nat.add_mul]; exact Nat.mul_le_mul_right _ hk
  have key : ∀ (arr arr' : Array Value), CRel ρ (.row m N g wr) arr 0 → N * m ≤ arr.size → arr'.size = arr.size →
      (∀ q, arr'[q]? = if k * m ≤ q ∧ q < k * m + cs.length then cs[q - k * m]? else arr[q]?) → CRel ρ (insCs m N k g wr new) arr' 0 := by
    intro arr arr' hcr hsz hsz' hget q v hv
    have hlt := Cs.get_lt hv
    rw [q1] at hlt
    rw [Nat.zero_add, hget, hl]
    by_cases hin : k * m ≤ q ∧ q < k * m + new.len * m
    · rw [if_pos hin]
      obtain ⟨p, rfl⟩ : ∃ p, q = k * m + p := ⟨q - k * m, by omega⟩
      rw [q3 p (by omega)] at hv
      obtain ⟨u, hu, hr⟩ := hcs p v hv
      refine ⟨u, ?_, hr⟩
      rw [show k * m + p - k * m = p by omega]
      simpa using hu
    · rw [if_neg hin]
      rw [q2 q hlt hin] at hv
      obtain ⟨u, hu, hr⟩ := hcr q v hv
      exact ⟨u, by simpa using hu, hr⟩
  obtain ⟨S, r1, _⟩ := id hR
  obtain ⟨a', ha', ho⟩ := r1 i _ hi
  obtain rfl : a' = a := Option.some.inj (ha'.symm.trans ha)
  have main : ∀ (e : TypeId) (arr : Array Value), a'.base = 0 → w.heap[a'.blk]? = some (.cells arr e (0, 0)) → N * m ≤ arr.size → CRel ρ (.row m N g wr) arr 0 → (∀ S, OHolds ρ w T a' S ob → S a'.blk) →
      (∀ S (w' : World) arr', S a'.blk → OHolds ρ w T a' S ob → w'.heap[a'.blk]? = some (.cells arr' e (0, 0)) → arr'.size = arr.size → CRel ρ (insCs m N k g wr new) arr' 0 →
        OHolds ρ w' T a' S (withC ob (insCs m N k g wr new))) →
      ∃ w', (storeCells ⟨a'.blk, a'.base + k * m, none⟩ cs).run P w = .ok () w' ∧ Rel (h.set i (withC ob (insCs m N k g wr new))) ρ T w' ∧ Keeps T w w' := by
    intro e arr h0 hb hsz hcr hown hnew
    obtain ⟨w', arr', hrun, hb', hsz', hw, hne, ho1, ho2, ho3, hget⟩ := run_storeCells (P := P) a'.blk cs (a'.base + k * m) 0 w arr hb h1 (by omega)
    have hget' : ∀ q, arr'[q]? = if k * m ≤ q ∧ q < k * m + cs.length then cs[q - k * m]? else arr[q]? := fun q => by
      rw [hget]; simp only [h0, Nat.zero_add, Nat.add_zero]
    refine ⟨w', hrun, hR.upd hi ha hw hne hown fun S hS hx => hnew S w' arr' hS hx hb' hsz' (key arr arr' hcr hsz hsz' hget'), ⟨by omega, ho1, ho2, ho3, fun b hb2 => hne b fun hbb => hb2 ?_⟩⟩
    subst hbb
    exact hR.own_T hi ha hown
  cases ob with
  | cells e c =>
    simp only [AObj.conts, Option.some.injEq] at hc; subst hc
    obtain ⟨h0, hS, arr, hb, hsz, hlim, hcr⟩ := ho
    refine main e arr h0 hb (by simp only [Cs.size] at hsz; omega) hcr (fun S' h => h.2.1) fun S' w' arr' hS' hx hb' hsz' hc' => ?_
    exact ⟨h0, hS', arr', hb', by rw [hsz', hsz, q1]; rfl, by rw [hlim, q1]; rfl, hc'⟩
  | room e c =>
    simp only [AObj.conts, Option.some.injEq] at hc; subst hc
    obtain ⟨h0, hS, arr, hb, hsz, hle', hcr⟩ := ho
    refine main e arr h0 hb (by simp only [Cs.size] at hle'; omega) hcr (fun S' h => h.2.1) fun S' w' arr' hS' hx hb' hsz' hc' => ?_
    exact ⟨h0, hS', arr', hb', by omega, by rw [q1]; exact hle', hc'⟩
  | _ => simp [isOwnRow] at hrow
/-- The cells of new elements are each one. -/
theorem ones_cells {ρ : Ren} {m : Nat} {new : NewEl} {vs : Array Value} (hm : 0 < m) (hones : new.ones m) (hvsz : vs.size = new.len * m) (hvc : CRel ρ (.row m new.len new.el []) vs 0) : ∀ u ∈ vs.toList, u.oneCell' = true := by
  intro u hu
  obtain ⟨k, hk⟩ := List.mem_iff_getElem?.1 hu
  have hk' : vs[k]? = some u := by simpa using hk
  have hlt : k < new.len * m := by rw [← hvsz]; exact (Array.getElem?_eq_some_iff.1 hk').1
  have hkn : k / m < new.len := Nat.div_lt_of_lt_mul (by rw [Nat.mul_comm]; exact hlt)
  have h1 := NewEl.ones_el hones (k / m) hkn
  simp only [Bool.and_eq_true, List.all_eq_true] at h1
  have hl := Nat.eq_of_beq_eq_true h1.1
  have hmod : k % m < (new.el (k / m)).length := by rw [hl]; exact Nat.mod_lt _ hm
  obtain ⟨y, hy, hr⟩ := hvc k (.lit (new.el (k / m))[k % m]) (by
    simp only [Cs.get, nblt_iff.2 hlt, cond_true, Cs.eff, List.getElem?_eq_getElem hmod])
  rw [Nat.zero_add, hk'] at hy; cases hy
  simp only [VRel] at hr; subst hr
  exact h1.2 _ (List.getElem_mem hmod)

def ownOf (h : Heap) (i : Nat) : Bool := match h.get i with
  | some ob => isOwnRow ob
  | none => false
def setRow (h : Heap) (i : Nat) (c : Cs) : Heap := match h.get i with
  | some ob => h.set i (withC ob c)
  | none => h
def vAppend (tt : TT) (t xt : TypeId) (s x : AV) (h : Heap) (Q : AV → Heap → Prop) : Prop :=
  match tt t, tt xt with
  | some ti, some tx => match ti.desc with
    | .slice e => match tt e with
      | some te => bif isIntD tx.desc || Nat.beq te.bytes 0 || !Nat.beq te.zero.length te.size || Nat.beq te.size 0 then False else (match s with
        | .lit (.slice none 0 0) => vNew h x te.size fun new => cP (Nat.beq new.len 0) (Q (.lit (.slice none 0 0)) h)
            ((2 * (0 + new.len) + 1000) * te.bytes ≤ 2 ^ 48 ∧ Q (.slW h.next 0 te.size (0 + new.len)) (h.push (.room e (appCs te.size 0 (fun _ => []) [] new))))
        | .slE i q m sn c => bif Nat.beq m te.size then (rowOf h i m fun N g wr => q + sn ≤ N ∧ vNew h x te.size fun new => cP (Nat.beq new.len 0) (Q (.slE i q m sn c) h)
            (cP (Nat.ble (sn + new.len) c) (new.ones te.size ∧ q + (sn + new.len) ≤ N ∧ (bif ownOf h i then Q (.slE i q m (sn + new.len) c) (setRow h i (insCs te.size N (q + sn) g wr new)) else False))
            ((2 * (sn + new.len) + 1000) * te.bytes ≤ 2 ^ 48 ∧ Q (.slW h.next 0 te.size (sn + new.len)) (h.push (.room e (appCs te.size sn (fun k => Cs.eff g wr (q + k)) [] new)))))) else False
        | .slW i 0 m sn => match h.get i with
          | some (.room e' (.row m' N g wr)) => bif Nat.beq m te.size && Nat.beq m' te.size && Nat.beq e' e then (N = sn ∧ vNew h x te.size fun new => new.ones te.size ∧ (2 * (sn + new.len) + 1000) * te.bytes ≤ 2 ^ 48 ∧
              Q (.slW h.next 0 te.size (sn + new.len)) ((h.drop i).push (.room e (appCs te.size sn g wr new)))) else False
          | _ => False
        | .sl i o 0 0 => vNew h x te.size fun new => cP (Nat.beq new.len 0) (Q (.sl i o 0 0) h)
            ((2 * (0 + new.len) + 1000) * te.bytes ≤ 2 ^ 48 ∧ Q (.slW h.next 0 te.size (0 + new.len)) (h.push (.room e (appCs te.size 0 (fun _ => []) [] new))))
        | s => match appendA tt t xt s x h with
          | some (v, h') => Q v h'
          | none => False)
      | none => False
    | _ => False
  | _, _ => False

theorem crel_app {ρ : Ren} {m n : Nat} {g : Nat → List Value} {wr : List (Nat × List Value)} {new : NewEl} (hm : 0 < m) {us vs rest : Array Value} (hc : CRel ρ (.row m n g wr) us 0) (hd : CRel ρ (.row m new.len new.el []) vs 0) (hus : us.size = n * m) (hvs : vs.size = new.len * m) :
    CRel ρ (appCs m n g wr new) (us ++ vs ++ rest) 0 := by
  obtain ⟨hsz, h1, h2⟩ := appCs_spec (m := m) (n := n) (g := g) (wr := wr) (new := new) hm
  intro k v hk
  have hlt := Cs.get_lt hk
  simp only [Nat.zero_add]
  by_cases hkc : k < n * m
  · rw [h1 k hkc] at hk
    obtain ⟨u, hu, hr⟩ := hc _ _ hk
    refine ⟨u, ?_, hr⟩
    rw [Array.getElem?_append_left (by simp; omega), Array.getElem?_append_left (by omega)]
    simpa using hu
  · obtain ⟨j, rfl⟩ : ∃ j, k = n * m + j := ⟨k - n * m, by omega⟩
    rw [h2] at hk
    obtain ⟨u, hu, hr⟩ := hd _ _ hk
    have hj := Cs.get_lt hk
    simp only [Cs.size] at hj
    refine ⟨u, ?_, hr⟩
    rw [Array.getElem?_append_left (by simp; omega), Array.getElem?_append_right (by omega)]
    simpa [hus] using hu
/-- An end of an operation that turns memory, of which Q holds. -/
def XQ (P : Program) (s : Sem Value) (h : Heap) (ρ : Ren) (T : Nat → Prop) (w : World) (Q : AV → Heap → Prop) : Prop := ∃ v h', XOk P s h ρ T w v h' ∧ Q v h'

theorem vAppend_ok {P : Program} {tt : TT} (hT : tt.ok P) {h : Heap} {ρ : Ren} {T : Nat → Prop} {w : World} (hR : Rel h ρ T w) {t xt ty : TypeId} {s x : AV} {u v : Value} {ts : Array TypeId} {us : Array Value} {Q : AV → Heap → Prop}
    (hq : vAppend tt t xt s x h Q) (hu : VRel ρ s u) (hv : VRel ρ x v) (ht0 : ts[0]? = some t) (ht1 : ts[1]? = some xt) (hu0 : us[0]? = some u) (hu1 : us[1]? = some v) : XQ P (Builtin.append_ ts ty us) h ρ T w Q := by
  unfold vAppend at hq
  split at hq
  · rename_i ti tx hti htx
    split at hq
    · rename_i e hd
      split at hq
      · rename_i te hte
        cases hbz : (isIntD tx.desc || Nat.beq te.bytes 0 || !Nat.beq te.zero.length te.size || Nat.beq te.size 0) with
        | true => rw [hbz] at hq; exact hq.elim
        | false =>
          rw [hbz] at hq; simp only [cond_false] at hq
          simp only [Bool.or_eq_false_iff, Bool.not_eq_false'] at hbz
          obtain ⟨⟨⟨hxi, hb0⟩, hz⟩, hs0⟩ := hbz
          have hb0 : te.bytes ≠ 0 := fun h0 => by rw [h0] at hb0; cases hb0
          have hm : 0 < te.size := Nat.pos_of_ne_zero fun h0 => by rw [h0] at hs0; cases hs0
          have hz : te.zero.length = te.size := Nat.eq_of_beq_eq_true hz
          have hund : ∀ w, (underlying t).run P w = .ok (.slice e) w := fun w => by
            obtain ⟨d1, r1, _, m1⟩ := run_under (P := P) hT hti w
            rw [mkTD_slice (m1.trans hd)] at r1; exact r1
          obtain ⟨dx, hdx, hdn⟩ : ∃ dx, (∀ w, (underlying xt).run P w = .ok dx w) ∧ ∀ k, dx ≠ .int k := by
            obtain ⟨d1, _, p1, m1⟩ := run_under (P := P) hT htx w
            refine ⟨d1, fun w => by simp [underlying, p1], fun k hk => ?_⟩
            subst hk
            rw [← m1] at hxi; cases hxi
          have hsz := fun w => run_sizeOf (P := P) hT hte w
          split at hq
          · -- none
            simp only [VRel] at hu; subst hu
            obtain ⟨new, ⟨hlen, hnew⟩, hq⟩ := vNew_ok (P := P) (T := T) hm hq hv
            rcases cP_elim hq with ⟨hn, hq⟩ | ⟨hn, hlim, hq⟩
            · have hn := Nat.eq_of_beq_eq_true hn
              obtain ⟨vs, hvs, _⟩ := hnew w hR
              refine ⟨_, _, ⟨.slice none 0 0, w, ρ, ?_, fun _ _ => rfl, Ren.le_refl _, Nat.le_refl _, hR, by simp only [VRel], Keeps.refl _ _⟩, hq⟩
              have := run_append_room (P := P) (w := w) (w' := w) (ty := ty) (base := none) ht0 ht1 hu0 hu1 hund hsz hdx hdn hlen (by omega) hvs rfl
              rw [hn] at this; exact this
            · have hn : new.len ≠ 0 := fun h0 => by rw [h0] at hn; cases hn
              obtain ⟨vs', hvs', hvsz', hvc'⟩ := hnew w.drew hR.drew
              obtain ⟨i, z, newCap, ρ', g1, g2, g3, g4, g5, g6, g7, g8, g9, g10, g11⟩ := grow_facts (P := P) hT hR hte hb0 hz (need := 0 + new.len) (sCap := 0) (by omega) hlim (us := #[]) (vs := vs') (c := appCs te.size 0 (fun _ => []) [] new)
                (by simp [hvsz']) (by rw [(appCs_spec hm).1]; simp) (fun rest => crel_app hm (fun k y hk => by have := Cs.get_lt hk; simp [Cs.size] at this) hvc' (by simp) hvsz')
              refine ⟨_, _, ⟨_, _, ρ', run_append_grow ht0 ht1 hu0 hu1 hund hsz hdx hdn hlen g1 (by omega) g3 (by omega) (by rw [g2]; exact g4) g5 (by simp [Builtin.firstCells]) hvs', g7, g8, by simp, g9, ?_, g11⟩, hq⟩
              simp only [VRel] at g10 ⊢
              obtain ⟨a, c, q1, q2, q3, q4⟩ := g10
              exact ⟨a, _, c, q1, q2, q3, fun _ => ⟨by simp, by omega⟩⟩
          · -- of elements, its room known
            rename_i i q m sn c
            cases hmb : Nat.beq m te.size with
            | false => rw [hmb] at hq; exact hq.elim
            | true =>
              rw [hmb] at hq; simp only [cond_true] at hq
              have := Nat.eq_of_beq_eq_true hmb; subst this
              have hu' := hu
              simp only [VRel] at hu
              obtain ⟨a, p, ha, rfl, hnc, hp⟩ := hu
              obtain ⟨ob, N, g, wr, hi, hc, hle, hq⟩ := rowOf_ok hq
              obtain ⟨new, ⟨hlen, hnew⟩, hq⟩ := vNew_ok (P := P) (T := T) hm hq hv
              rcases cP_elim hq with ⟨hn, hq⟩ | ⟨hn, hcap⟩
              · have hn := Nat.eq_of_beq_eq_true hn
                obtain ⟨vs, hvs, hvsz, _⟩ := hnew w hR
                have hvs0 : vs = #[] := Array.eq_empty_of_size_eq_zero (by rw [hvsz, hn]; simp)
                subst hvs0
                refine ⟨_, _, ⟨_, w, ρ, run_append_room (w' := w) ht0 ht1 hu0 hu1 hund hsz hdx hdn hlen (by omega) hvs (by simp [storeCells]), fun _ _ => rfl, Ren.le_refl _, Nat.le_refl _, hR, ?_, Keeps.refl _ _⟩, hq⟩
                rw [hn]; exact hu'
              · have hn : new.len ≠ 0 := fun h0 => by rw [h0] at hn; cases hn
                rcases cP_elim hcap with ⟨hroom, hones, hin, hq⟩ | ⟨hroom, hlim, hq⟩
                · have hroom : sn + new.len ≤ c := by simpa using hroom
                  cases how : ownOf h i with
                  | false => rw [how] at hq; exact hq.elim
                  | true =>
                  rw [how] at hq; simp only [cond_true] at hq
                  have hrow : isOwnRow ob = true := by simpa [ownOf, hi] using how
                  have hset : setRow h i (insCs te.size N (q + sn) g wr new) = h.set i (withC ob (insCs te.size N (q + sn) g wr new)) := by simp [setRow, hi]
                  rw [hset] at hq
                  obtain ⟨vs, hvs, hvsz, hvc⟩ := hnew w hR
                  have hkN : q + sn + new.len ≤ N := by omega
                  obtain ⟨w', hrun, hR', hk'⟩ := run_storeCells_ins (P := P) hR (k := q + sn) (cs := vs.toList) hm hi hrow hc ha hkN (by simpa using hvsz) (ones_cells hm hones hvsz hvc) (by simpa using hvc)
                  refine ⟨_, _, ⟨_, w', ρ, run_append_room (w' := w') ht0 ht1 hu0 hu1 hund hsz hdx hdn hlen hroom hvs ?_, fun _ _ => rfl, Ren.le_refl _, by simp, hR', ?_, hk'⟩, hq⟩
                  · simp only [add_zero_spot]
                    rw [hp (by omega), Nat.add_assoc, ← Nat.add_mul]; exact hrun
                  · simp only [VRel]; exact ⟨a, p, ha, rfl, hroom, hp⟩
                have hcap : c < sn + new.len := by
                  cases hb : Nat.ble (sn + new.len) c with
                  | true => rw [hb] at hroom; cases hroom
                  | false => rcases Nat.lt_or_ge c (sn + new.len) with h' | h'
                             · exact h'
                             · have hb2 : Nat.ble (sn + new.len) c = true := by simpa using h'
                               rw [hb2] at hb; cases hb
                obtain ⟨vs', hvs', hvsz', hvc'⟩ := hnew w.drew hR.drew
                obtain ⟨_, hold⟩ := seg_many (P := P) (T := T) (c := c) hm hi hc ha hle (p := p) (fun h => hp (by omega))
                obtain ⟨os, hos, hosz, hoc⟩ := hold w.drew hR.drew
                simp only [NewEl.len, NewEl.el] at hos hosz hoc
                obtain ⟨ii, z, newCap, ρ', g1, g2, g3, g4, g5, g6, g7, g8, g9, g10, g11⟩ := grow_facts (P := P) hT hR hte hb0 hz (need := sn + new.len) (sCap := c) (by omega) hlim (us := os) (vs := vs')
                  (c := appCs te.size sn (fun k => Cs.eff g wr (q + k)) [] new) (by rw [hosz, hvsz', Nat.add_mul]) (by rw [(appCs_spec hm).1, Nat.add_mul]) (fun rest => crel_app hm hoc hvc' hosz hvsz')
                refine ⟨_, _, ⟨_, _, ρ', run_append_grow ht0 ht1 hu0 hu1 hund hsz hdx hdn hlen g1 (by omega) g3 (by omega) (by rw [g2]; exact g4) g5 hos hvs', g7, g8, by simp, g9, ?_, g11⟩, hq⟩
                simp only [VRel] at g10 ⊢
                obtain ⟨a, c, q1, q2, q3, q4⟩ := g10
                exact ⟨a, _, c, q1, q2, q3, fun _ => ⟨by simp, by omega⟩⟩
          · -- of elements, its room not known
            rename_i i m sn
            split at hq
            · rename_i e' m' N g wr hi
              cases hck : (Nat.beq m te.size && Nat.beq m' te.size && Nat.beq e' e) with
              | false => rw [hck] at hq; exact hq.elim
              | true =>
                rw [hck] at hq; simp only [cond_true] at hq
                simp only [Bool.and_eq_true] at hck
                obtain ⟨⟨k1, k2⟩, k3⟩ := hck
                have k1 := Nat.eq_of_beq_eq_true k1
                have k2 := Nat.eq_of_beq_eq_true k2
                have k3 := Nat.eq_of_beq_eq_true k3
                subst k1; subst k3; subst k2
                obtain ⟨rfl, hq⟩ := hq
                obtain ⟨new, ⟨hlen, hnew⟩, hones, hlim, hq⟩ := vNew_ok (P := P) (T := T) hm hq hv
                simp only [VRel] at hu
                obtain ⟨a, p, sc, ha, rfl, hle, hp⟩ := hu
                obtain ⟨S, r1, _⟩ := id hR
                obtain ⟨a', ha', ho⟩ := r1 i _ hi
                obtain rfl : a' = a := Option.some.inj (ha'.symm.trans ha)
                obtain ⟨h0, hS, arr, hb1, hasz, hclim, hcr⟩ := ho
                obtain ⟨q1, q2, q3⟩ := appCs_spec (m := te.size) (n := N) (g := g) (wr := wr) (new := new) hm
                by_cases hroom : N + new.len ≤ sc
                · obtain ⟨vs, hvs, hvsz, hvc⟩ := hnew w hR
                  have hone : ∀ u ∈ vs.toList, u.oneCell' = true := by
                    intro u hu
                    obtain ⟨k, hk⟩ := List.mem_iff_getElem?.1 hu
                    have hk' : vs[k]? = some u := by simpa using hk
                    have hlt : k < new.len * te.size := by rw [← hvsz]; exact (Array.getElem?_eq_some_iff.1 hk').1
                    have hkn : k / te.size < new.len := Nat.div_lt_of_lt_mul (by rw [Nat.mul_comm]; exact hlt)
                    have h1 := NewEl.ones_el hones (k / te.size) hkn
                    simp only [Bool.and_eq_true, List.all_eq_true] at h1
                    have hl := Nat.eq_of_beq_eq_true h1.1
                    have hmod : k % te.size < (new.el (k / te.size)).length := by rw [hl]; exact Nat.mod_lt _ hm
                    obtain ⟨y, hy, hr⟩ := hvc k (.lit (new.el (k / te.size))[k % te.size]) (by
                      simp only [Cs.get, nblt_iff.2 hlt, cond_true, Cs.eff, List.getElem?_eq_getElem hmod])
                    rw [Nat.zero_add, hk'] at hy; cases hy
                    simp only [VRel] at hr; subst hr
                    exact h1.2 _ (List.getElem_mem hmod)
                  obtain ⟨hp1, hp2⟩ : (sc ≠ 0 → p = a'.base + 0 * te.size) ∧ (sc ≠ 0 → 0 * te.size + sc * te.size ≤ a'.lim) := ⟨fun h => (hp h).1, fun h => (hp h).2⟩
                  have hfit : N * te.size + vs.size ≤ arr.size := by
                    rw [hasz, hvsz, ← Nat.add_mul]
                    rcases Nat.eq_zero_or_pos sc with h00 | h00
                    · have : N + new.len = 0 := by omega
                      rw [this]; simp
                    · exact Nat.le_trans (Nat.mul_le_mul_right _ hroom) (by have := hp2 (by omega); omega)
                  by_cases hv0 : vs.size = 0
                  · -- nothing is laid down
                    have hn0 : new.len = 0 := by
                      rw [hvsz] at hv0
                      rcases Nat.mul_eq_zero.1 hv0 with h' | h'
                      · exact h'
                      · omega
                    have hvs0 : vs = #[] := Array.eq_empty_of_size_eq_zero hv0
                    subst hvs0
                    have hR' : Rel (h.set i (.room e' (appCs te.size N g wr new))) ρ T w := hR.upd hi ha rfl (fun _ _ => rfl) (fun S h => h.2.1) fun S' hS' hx => ⟨h0, hS', arr, hb1, hasz, by rw [q1, hn0]; simpa [Cs.size] using hclim, fun k y hk => by
                      have hk2 := Cs.get_lt hk
                      rw [q1, hn0] at hk2
                      rw [q2 k (by omega)] at hk
                      exact hcr k y hk⟩
                    obtain ⟨ρ', m1, m2, m3, m4⟩ := hR'.move (i := i) (o := .room e' (appCs te.size N g wr new)) (a := a') (by rw [Heap.get_set, if_pos rfl]) ha
                    refine ⟨_, _, ⟨_, w, ρ', run_append_room (w' := w) ht0 ht1 hu0 hu1 hund hsz hdx hdn hlen hroom hvs (by simp [storeCells]), m3, m1, by simp, ?_, ?_, Keeps.refl _ _⟩, hq⟩
                    · refine m4.less (Nat.le_refl _) fun j x hj => ?_
                      rw [Heap.get_push] at hj ⊢
                      have hnx : ((h.set i (.room e' (appCs te.size N g wr new))).drop i).next = (h.drop i).next := by simp
                      rw [hnx]
                      split at hj
                      · rename_i hjn; rw [if_pos hjn]; exact hj
                      · rename_i hjn
                        rw [if_neg hjn, Heap.get_drop]
                        rw [Heap.get_drop] at hj
                        split at hj
                        · cases hj
                        · rename_i hji; rw [if_neg hji, Heap.get_set, if_neg hji]; exact hj
                    · simp only [VRel]
                      exact ⟨a', p, sc, by simpa using m2, by simp, hroom, hp⟩
                  · have hpe : p = a'.base + 0 * te.size := hp1 fun h00 => by
                      have : new.len = 0 := by omega
                      rw [hvsz, this] at hv0; simp at hv0
                    obtain ⟨w', arr', hrun, hb', hsz', hw, hne, ho1, ho2, ho3, hget⟩ := run_storeCells (P := P) a'.blk vs.toList (p + N * te.size) 0 w arr hb1 hone (by simp; omega)
                    have hcr' : CRel ρ (appCs te.size N g wr new) arr' 0 := by
                      intro k y hk
                      simp only [Nat.zero_add]
                      rw [hget]
                      simp only [hpe, h0, Nat.zero_mul, Nat.zero_add, Nat.add_zero, Array.length_toList]
                      by_cases hkc : k < N * te.size
                      · rw [if_neg (by omega)]
                        rw [q2 k hkc] at hk
                        simpa using hcr k y hk
                      · obtain ⟨j, rfl⟩ : ∃ j, k = N * te.size + j := ⟨k - N * te.size, by omega⟩
                        rw [q3] at hk
                        have hj := Cs.get_lt hk
                        simp only [Cs.size] at hj
                        rw [if_pos (by omega)]
                        obtain ⟨q, hq, hr⟩ := hvc j y hk
                        refine ⟨q, ?_, hr⟩
                        have : N * te.size + j - N * te.size = j := by omega
                        rw [this]
                        simpa using hq
                    have hR' : Rel (h.set i (.room e' (appCs te.size N g wr new))) ρ T w' := hR.upd hi ha hw hne (fun S h => h.2.1) fun S' hS' hx => ⟨h0, hS', arr', hb', by omega, by rw [q1]; omega, hcr'⟩
                    obtain ⟨ρ', m1, m2, m3, m4⟩ := hR'.move (i := i) (o := .room e' (appCs te.size N g wr new)) (a := a') (by rw [Heap.get_set, if_pos rfl]) ha
                    refine ⟨_, _, ⟨_, w', ρ', run_append_room (w' := w') ht0 ht1 hu0 hu1 hund hsz hdx hdn hlen hroom hvs ?_, m3, m1, by simp, ?_, ?_, ?_⟩, hq⟩
                    · simp only [add_zero_spot]; exact hrun
                    · refine m4.less (Nat.le_refl _) fun j x hj => ?_
                      rw [Heap.get_push] at hj ⊢
                      have hnx : ((h.set i (.room e' (appCs te.size N g wr new))).drop i).next = (h.drop i).next := by simp
                      rw [hnx]
                      split at hj
                      · rename_i hjn; rw [if_pos hjn]; exact hj
                      · rename_i hjn
                        rw [if_neg hjn, Heap.get_drop]
                        rw [Heap.get_drop] at hj
                        split at hj
                        · cases hj
                        · rename_i hji; rw [if_neg hji, Heap.get_set, if_neg hji]; exact hj
                    · simp only [VRel]
                      exact ⟨a', p, sc, by simpa using m2, by simp, hroom, hp⟩
                    · refine ⟨by omega, ho1, ho2, ho3, fun b hb2 => hne b fun hbb => hb2 ?_⟩
                      subst hbb
                      exact hR.own_T hi ha (fun S h => h.2.1)
                · obtain ⟨vs', hvs', hvsz', hvc'⟩ := hnew w.drew hR.drew
                  obtain ⟨_, hold⟩ := seg_many (P := P) (T := T) (q := 0) (n := N) (p := p) (c := sc) hm hi (by rfl) ha (by omega) (fun h => (hp (by omega)).1)
                  obtain ⟨os, hos, hosz, hoc⟩ := hold w.drew hR.drew
                  simp only [NewEl.len, NewEl.el] at hos hosz hoc
                  have hoc' : CRel ρ (.row te.size N g wr) os 0 := fun k y hk => by
                    refine hoc k y ?_
                    have hk2 := Cs.get_lt hk
                    simp only [Cs.size] at hk2
                    simp only [Cs.get, nblt_iff.2 hk2, cond_true, Cs.eff, Nat.zero_add] at hk ⊢
                    exact hk
                  obtain ⟨ii, z, newCap, ρ', g1, g2, g3, g4, g5, g6, g7, g8, g9, g10, g11⟩ := grow_facts (P := P) hT hR hte hb0 hz (need := N + new.len) (sCap := sc) (by omega) hlim (us := os) (vs := vs') (c := appCs te.size N g wr new)
                    (by rw [hosz, hvsz', Nat.add_mul]) (by rw [q1, Nat.add_mul]) (fun rest => crel_app hm hoc' hvc' hosz hvsz')
                  refine ⟨_, _, ⟨_, _, ρ', run_append_grow ht0 ht1 hu0 hu1 hund hsz hdx hdn hlen g1 (by omega) g3 (by omega) (by rw [g2]; exact g4) g5 hos hvs', g7, g8, by simp, ?_, ?_, g11⟩, hq⟩
                  · refine g9.less (Nat.le_refl _) fun j x hj => ?_
                    rw [Heap.get_push] at hj ⊢
                    have hnx : (h.drop i).next = h.next := by simp
                    rw [hnx] at hj
                    split at hj
                    · rename_i hjn; rw [if_pos hjn]; exact hj
                    · rename_i hjn
                      rw [if_neg hjn]
                      rw [Heap.get_drop] at hj
                      split at hj
                      · cases hj
                      · exact hj
                  · simp only [VRel] at g10 ⊢
                    obtain ⟨a, c, q1, q2, q3, q4⟩ := g10
                    exact ⟨a, _, c, q1, q2, q3, fun _ => ⟨by simp, by omega⟩⟩
            · exact hq.elim
          · -- of nothing, without room
            rename_i i o
            have hu' := hu
            simp only [VRel] at hu; obtain ⟨a0, ha0, rfl⟩ := hu
            obtain ⟨new, ⟨hlen, hnew⟩, hq⟩ := vNew_ok (P := P) (T := T) hm hq hv
            rcases cP_elim hq with ⟨hn, hq⟩ | ⟨hn, hlim, hq⟩
            · have hn := Nat.eq_of_beq_eq_true hn
              obtain ⟨vs, hvs, hvsz, _⟩ := hnew w hR
              have hvs0 : vs = #[] := Array.eq_empty_of_size_eq_zero (by rw [hvsz, hn]; simp)
              subst hvs0
              refine ⟨_, _, ⟨_, w, ρ, ?_, fun _ _ => rfl, Ren.le_refl _, Nat.le_refl _, hR, hu', Keeps.refl _ _⟩, hq⟩
              have := run_append_room (P := P) (w := w) (w' := w) (ty := ty) (base := some ⟨a0.blk, a0.base + o, none⟩) ht0 ht1 hu0 hu1 hund hsz hdx hdn hlen (by omega) hvs (by simp [storeCells])
              rw [hn] at this; exact this
            · have hn : new.len ≠ 0 := fun h0 => by rw [h0] at hn; cases hn
              obtain ⟨vs', hvs', hvsz', hvc'⟩ := hnew w.drew hR.drew
              obtain ⟨i, z, newCap, ρ', g1, g2, g3, g4, g5, g6, g7, g8, g9, g10, g11⟩ := grow_facts (P := P) hT hR hte hb0 hz (need := 0 + new.len) (sCap := 0) (by omega) hlim (us := #[]) (vs := vs') (c := appCs te.size 0 (fun _ => []) [] new)
                (by simp [hvsz']) (by rw [(appCs_spec hm).1]; simp) (fun rest => crel_app hm (fun k y hk => by have := Cs.get_lt hk; simp [Cs.size] at this) hvc' (by simp) hvsz')
              refine ⟨_, _, ⟨_, _, ρ', run_append_grow ht0 ht1 hu0 hu1 hund hsz hdx hdn hlen g1 (by omega) g3 (by omega) (by rw [g2]; exact g4) g5 (by simp [Builtin.firstCells, loadCells, loadCellsFrom]) hvs', g7, g8, by simp, g9, ?_, g11⟩, hq⟩
              simp only [VRel] at g10 ⊢
              obtain ⟨a, c, q1, q2, q3, q4⟩ := g10
              exact ⟨a, _, c, q1, q2, q3, fun _ => ⟨by simp, by omega⟩⟩
          · split at hq
            · rename_i r h' hr
              exact ⟨r, h', appendA_ok hT hR hr hu hv ht0 ht1 hu0 hu1, hq⟩
            · exact hq.elim
      · exact hq.elim
    · exact hq.elim
  · exact hq.elim
end Go.Proofs.YtpbdlibgbkhlhaaGreat.SE
