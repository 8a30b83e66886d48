/- Objects of which nothing is told; rows that may be none. -/
import Derived.Test.YtpbdlibgbkhlhaaGreatE19
namespace Go.Proofs.YtpbdlibgbkhlhaaGreat.SE
open Go
open Go.RowKit

theorem Rel.top {h : Heap} {ρ : Ren} {T : Nat → Prop} {w : World} (hR : Rel h ρ T w) :
    ∃ ρ', ρ.le ρ' ∧ (∀ i, i < h.next → ρ' i = ρ i) ∧ Rel (h.push (.abs topOwn)) ρ' T w := by
  obtain ⟨S, h1, h2, h3, h4, h5⟩ := hR
  let ρ' : Ren := fun i => if i = h.next then some ⟨0, 0, 0⟩ else ρ i
  have hle : ρ.le ρ' := fun i a ha => by
    by_cases hi : i = h.next
    · rw [hi, h4 h.next (Nat.le_refl _)] at ha; cases ha
    · simp [ρ', hi, ha]
  have hget : ∀ {i o}, (h.push (.abs topOwn)).get i = some o → (i = h.next ∧ o = .abs topOwn) ∨ (i ≠ h.next ∧ h.get i = some o) := by
    intro i o hi
    rw [Heap.get_push] at hi
    split at hi
    · rename_i he; cases hi; exact .inl ⟨he, rfl⟩
    · rename_i he; exact .inr ⟨he, hi⟩
  refine ⟨ρ', hle, fun i hi => by simp [ρ', Nat.ne_of_lt hi], fun i b => i ≠ h.next ∧ S i b, fun i o hi => ?_, fun i j o o' b hi hj hij hSi hSj => ?_, fun i o b hi hS => ?_, fun i hi => ?_, h5⟩
  · rcases hget hi with ⟨rfl, rfl⟩ | ⟨hne, hi'⟩
    · exact ⟨⟨0, 0, 0⟩, by simp [ρ'], trivial⟩
    · obtain ⟨a, ha, ho⟩ := h1 i o hi'
      refine ⟨a, by simp [ρ', hne, ha], ?_⟩
      have : (fun b => i ≠ h.next ∧ S i b) = S i := by funext b; simp [hne]
      show OHolds ρ' w T a (fun b => i ≠ h.next ∧ S i b) o
      rw [this]; exact ho.mono hle
  · rcases hget hi with ⟨rfl, rfl⟩ | ⟨hne, hi'⟩
    · exact hSi.1 rfl
    · rcases hget hj with ⟨rfl, rfl⟩ | ⟨hne', hj'⟩
      · exact hSj.1 rfl
      · exact h2 i j o o' b hi' hj' hij hSi.2 hSj.2
  · rcases hget hi with ⟨rfl, rfl⟩ | ⟨hne, hi'⟩
    · exact (hS.1 rfl).elim
    · exact h3 i o b hi' hS.2
  · have hi' : h.next + 1 ≤ i := by simpa using hi
    have : i ≠ h.next := by omega
    simp [ρ', this, h4 i (by omega)]
theorem awp_top {P : Program} {k n : Nat} {c : Code} {Q : Exit → Fr → Heap → Prop} {fr : Fr} {h : Heap} (hn : AWp P k n c Q fr (h.push (.abs topOwn))) : AWp P k n c Q fr h := by
  intro ρ T w a hs
  obtain ⟨ρ', b1, b2, b3⟩ := hs.rel.top
  have := hn ρ' T w a ⟨by rw [Heap.next_push]; exact Nat.le_succ_of_le hs.le, b3, hs.fr.mono b1⟩
  exact wp_mono this (apost_trans (fun i hi => b2 i (Nat.lt_of_lt_of_le hi hs.le)) (Keeps.refl _ _))
theorem leq_top {k : Nat} {v : AV} {h : Heap} (hk : k ≤ h.next) : Leq k v h v (h.push (.abs topOwn)) := by
  refine ⟨by rw [Heap.next_push]; omega, fun ρ T w u hR hv => ?_⟩
  obtain ⟨ρ', b1, b2, b3⟩ := hR.top
  exact ⟨ρ', fun i hi => b2 i (by omega), b3, VRel.mono b1 _ _ hv⟩
theorem callOk_none (P : Program) : CallOk P (fun _ _ _ => none) := by intro g args h v h' hr; cases hr
/-- Nothing is told any more. -/
theorem leq_drop {k : Nat} {v : AV} {h : Heap} (hv : vmap (fun _ => 0) v = v) (hb : vbelow 0 v = true) : Leq k v h v (hO k []) := by
  refine ⟨Nat.le_refl _, fun ρ T w u hR hvr => ⟨fun i => if i < k then ρ i else none, fun i hi => by simp [hi], ?_, ?_⟩⟩
  · obtain ⟨S, h1, h2, h3, h4, h5⟩ := hR
    have hno : ∀ i o, (hO k []).get i = some o → False := fun i o hi => by simp [hO, putO, Heap.get, HM.get_leaf] at hi
    exact ⟨S, fun i o hi => (hno i o hi).elim, fun i j o o' b hi => (hno i o hi).elim, fun i o b hi => (hno i o hi).elim, fun i hi => by
      have : ¬ i < k := by simp only [hO] at hi; omega
      simp [this], h5⟩
  · have := VRel.vback (ρ' := ρ) (ρ := fun i => if i < k then ρ i else none) (τ := fun _ => 0) (n := 0) (fun i hi => absurd hi (Nat.not_lt_zero _)) v u hb (by rw [hv]; exact hvr)
    exact this

theorem opR_load {tt : TT} {t : TypeId} {a : Operand} {ev : Operand → AV} {h : Heap} {v : AV} (hl : loadA tt t (ev a) h = some v) : opR tt (.load t a) ev h = some v := by simp only [opR, hl]

/-! ### Rows that may be none -/
section
variable {α : Type} (f : α → List Value) (e : TypeId) (sz : Nat)
/-- The slice over the row l: none when 'z'. -/
def vecV (i : Nat) (l : List α) (z : Bool) : AV := bif z then .lit (.slice none 0 0) else .slU i 0 l.length sz
def vecO (l : List α) (z : Bool) : AObj := bif z then .abs topOwn else .room e (.raw (flat f l))
end
section
variable {α : Type} {f : α → List Value} {e : TypeId} {sz : Nat}
theorem omap_vec (τ : Nat → Nat) (l : List α) (z : Bool) : omap τ (vecO f e l z) = vecO f e l z := by cases z <;> rfl
theorem obelow_vec (n : Nat) (l : List α) (z : Bool) : obelow n (vecO f e l z) = true := by cases z <;> rfl
theorem soft_vec (τ : Nat → Nat) (n : Nat) (l : List α) (z : Bool) : Soft τ n (vecO f e l z) (vecO f e l z) := by
  have := soft_map (τ := τ) (n := n) (obelow_vec (f := f) (e := e) n l z)
  rwa [omap_vec] at this
theorem fits_vec (τ : Nat → Nat) (l : List α) (z : Bool) : fits τ (vecO f e l z) (vecO f e l z) := .inl (omap_vec τ l z).symm
theorem vmap_vec (τ : Nat → Nat) (i j : Nat) (h : τ i = j) (l : List α) (z : Bool) : vmap τ (vecV sz i l z) = vecV sz j l z := by subst h; cases z <;> rfl
theorem vbelow_vec (n i : Nat) (h : Nat.blt i n = true) (l : List α) (z : Bool) : vbelow n (vecV sz i l z) = true := by
  cases z
  · exact h
  · rfl
theorem len_vec {tt : TT} {t e' : TypeId} {ti : TI} {i : Nat} {l : List α} {z : Bool} (hti : tt t = some ti) (hd : ti.desc = .slice e') (hz : z = true → l = []) : lenN tt t (vecV sz i l z) = some (.lit (.int .i64 (l.length : Int))) := by
  cases z
  · simp only [lenN, hti, hd, vecV, cond_false]
  · have := hz rfl; subst this
    simp only [lenN, hti, hd, vecV, cond_true]; rfl
theorem idx_vec {tt : TT} {t e' : TypeId} {ti te : TI} {i p m : Nat} {kk : IntKind} {l : List α} {z : Bool} (hti : tt t = some ti) (hd : ti.desc = .slice e') (hte : tt e' = some te) (hm : te.size = m) (hz : z = true → l = []) (hp : p < l.length) :
    indexAddrN tt t (vecV sz i l z) (.lit (.int kk (p : Int))) = some (.ptr i (p * m)) := by
  cases z
  · subst hm
    simp only [indexAddrN, hti, hd, hte, vecV, cond_false]
    rw [if_pos ⟨by omega, by omega⟩, Int.toNat_natCast, Nat.zero_add]
  · have := hz rfl; subst this; simp at hp
theorem rawAt_vec {h : Heap} {i : Nat} {l : List α} {z : Bool} (hz : z = true → l = []) (hi : h.get i = some (vecO f e l z)) (hne : 0 < l.length) : RawAt h i (flat f l) := by
  cases z
  · exact ⟨_, hi, rfl⟩
  · have := hz rfl; subst this; simp at hne
theorem lenA_vec {i : Nat} {l : List α} {z : Bool} (hz : z = true → l = []) : lenA (vecV sz i l z) = some l.length := by
  cases z
  · rfl
  · have := hz rfl; subst this; rfl
/-- A row, and one element behind it. -/
theorem append_one {tt : TT} {t xt : TypeId} {ti tx te : TI} {h : Heap} {i j n cp by' : Nat} {l : List α} {a : α} (hf : ∀ a, (f a).length = sz) (hti : tt t = some ti) (htx : tt xt = some tx) (hxi : isIntD tx.desc = false) (hd : ti.desc = .slice e)
    (hte : tt e = some te) (hb : (Nat.beq te.bytes 0 || !Nat.beq te.zero.length te.size) = false) (hsz : te.size = sz) (hby : te.bytes = by') (hi : h.get i = some (.room e (.raw (flat f l)))) (hn : l.length = n) (hseg : segOf h (.sl j 0 1 cp) 1 sz = some (.av ((f a).map .lit)))
    (hlits : litsOf ((f a).map .lit) = some (f a)) (h1 : ∀ v ∈ f a, v.oneCell' = true) (hlim : (2 * (n + 1) + 1000) * by' ≤ 2 ^ 48) :
    appendA tt t xt (.slU i 0 n sz) (.sl j 0 1 cp) h = some ((h.drop i).new (fun k => .slU k 0 (n + 1) sz) (.room e (.raw (flat f (l ++ [a]))))) := by
  subst hby; subst hsz; subst hn
  have hone : oneCells (.av ((f a).map .lit)) = true := by
    simp only [oneCells, List.all_eq_true, List.mem_map]
    rintro _ ⟨v, hv, rfl⟩
    exact h1 v hv
  refine appendU (d := .av ((f a).map .lit)) hti htx hxi hd hte hb rfl hi (by rw [flat_length hf]) rfl hseg ?_ hone hlim
  simp only [Cs.app, hlits, flat_append, flat_one]
end
theorem soft_avraw (τ : Nat → Nat) (n : Nat) (e : TypeId) (L : List Value) : Soft τ n (.room e (.raw L)) (.room e (.av (L.map .lit))) :=
  soft_room (by simp [Cs.size]) fun k v hv => .inr (by
    simp only [Cs.get] at hv ⊢
    cases hk : L[k]? with
    | none => rw [hk] at hv; cases hv
    | some u =>
      rw [hk] at hv; simp only [Option.some.injEq] at hv; subst hv
      simp [hk, SE.vmap, vbelow])

/-- A row of which the room is not known, cut at its end: the empty slice stands at its end, or at its head. -/
theorem rplan_sliceEnd {P : Program} {tt : TT} (hT : tt.ok P) {k n : Nat} {ops : Array Oper} {Q : Fr → Heap → Prop} {fr : Fr} {h : Heap} {i : Nat} {rest : List Stp} {o : Oper} {t e : TypeId} {x lo : Operand} {ti te : TI} {j b m sz : Nat} {kk : IntKind}
    (ho : ops[i]? = some o) (hop : o.op = .slice t x (some lo) none none) (hd : dstOk n o.dst = true) (hw : wantedA ops o fr = some true) (hti : tt t = some ti) (hdesc : ti.desc = .slice e) (hte : tt e = some te)
    (hx : evA fr x = .slU j b m sz) (hlo : evA fr lo = .lit (.int kk (m : Int))) (hsz : te.size = sz)
    (hn1 : RPlan P k n ops rest Q (putF fr o.dst (.slU j (b + m * sz) 0 sz)) h) (hn2 : RPlan P k n ops rest Q (putF fr o.dst (.slU j b 0 sz)) h) : RPlan P k n ops (.xx i :: rest) Q fr h := by
  subst hsz
  intro ρ T w a hst
  have hxv := hst.fr.ev x
  rw [hx] at hxv
  have hlv := hst.fr.ev lo
  rw [hlo] at hlv
  simp only [VRel] at hxv hlv
  obtain ⟨l, c, hl, hxe, hnc, hlim⟩ := hxv
  have hbn : bnds m m (some (.lit (.int kk (m : Int)))) none none = some (m, m, m) := by
    simp only [bnds, bnd]
    rw [if_pos ⟨by omega, by omega⟩, Int.toNat_natCast]
  have hbb : ∀ w, (Instr.sliceBounds true m c (some (a.eval lo)) none none).run P w = .ok (m, m, c) w := fun w =>
    bnds_ok (P := P) (ρ := ρ) (b := true) (bnds_cap hbn hnc) ⟨_, rfl, by simp only [VRel]; exact hlv⟩ (by simp [ORel]) (by simp [ORel]) w
  obtain ⟨d1, r1, _, m1⟩ := run_under (P := P) hT hti w
  have hrun : ∀ w, (execOp a.eval o).run P w = .ok (.value (.slice (if c = m then some ⟨l.blk, l.base + b, none⟩ else some ⟨l.blk, l.base + b + m * te.size, none⟩) 0 (c - m))) w := by
    intro w
    obtain ⟨dst, op, ty, pos, after, guard⟩ := o
    simp only at hop
    subst hop
    obtain ⟨d1, r1, _, m1⟩ := run_under (P := P) hT hti w
    rw [mkTD_slice (m1.trans hdesc)] at r1
    simp only [execOp, Option.map_some, Option.map_none]
    refine run_next ?_
    rw [hxe]
    simp [Instr.sliceAt, Instr.slice, r1, hbb, run_sizeOf hT hte, add_zero_spot]
  have hy : ∀ v, (∀ w, (execOp a.eval o).run P w = .ok (.value v) w) → Yields P ops o v a := fun v hv => .inl ⟨wantedA_ok hst.fr hw, hv⟩
  unfold wpPlan
  by_cases hc : c = m
  · rw [if_pos hc] at hrun
    exact (hy _ hrun).wpOp ho (hn2 ρ T w _ ⟨hst.le, hst.rel, hst.fr.put hd ⟨l, c - m, hl, rfl, by omega, by subst hc; simp; exact Nat.le_trans (Nat.le_add_right _ _) hlim⟩⟩)
  · rw [if_neg hc] at hrun
    exact (hy _ hrun).wpOp ho (hn1 ρ T w _ ⟨hst.le, hst.rel, hst.fr.put hd ⟨l, c - m, hl, by rw [Nat.add_assoc], by omega, by
      have : b + m * te.size + (c - m) * te.size = b + c * te.size := by
        rw [Nat.add_assoc, ← Nat.add_mul]; congr 2; omega
      omega⟩⟩)

theorem soft_top (τ : Nat → Nat) (n : Nat) (o : AObj) : Soft τ n (.abs topOwn) o := fun _ _ _ _ _ _ _ _ => trivial
/-- A copy of a row: none to which it is appended. -/
theorem append_nil0 {tt : TT} {t xt e : TypeId} {ti tx te : TI} {h : Heap} {sz : Nat} {x : AV} {d : Cs} (hti : tt t = some ti) (htx : tt xt = some tx) (hxi : isIntD tx.desc = false) (hd : ti.desc = .slice e)
    (hte : tt e = some te) (hb : (Nat.beq te.bytes 0 || !Nat.beq te.zero.length te.size) = false) (hsz : te.size = sz) (hn : lenA x = some 0) (hseg : segOf h x 0 sz = some d) :
    appendA tt t xt (.lit (.slice none 0 0)) x h = some (.lit (.slice none 0 0), h) := by
  subst hsz
  simp only [appendA, hti, htx, hn, hxi, cond_false, hd, hte, hb, hseg]
  rfl
theorem append_copy {tt : TT} {t xt e : TypeId} {ti tx te : TI} {h : Heap} {n sz by' : Nat} {x : AV} {α : Type} {f : α → List Value} {B : List α} (hti : tt t = some ti) (htx : tt xt = some tx) (hxi : isIntD tx.desc = false) (hd : ti.desc = .slice e)
    (hte : tt e = some te) (hb : (Nat.beq te.bytes 0 || !Nat.beq te.zero.length te.size) = false) (hsz : te.size = sz) (hby : te.bytes = by') (hn : lenA x = some n) (hn0 : 0 < n) (hseg : segOf h x n sz = some (.raw (flat f B)))
    (h1 : ∀ a, ∀ v ∈ f a, v.oneCell' = true) (hlim : (2 * n + 1000) * by' ≤ 2 ^ 48) :
    appendA tt t xt (.lit (.slice none 0 0)) x h = some (h.new (fun k => .slU k 0 n sz) (.room e (.raw (flat f B)))) := by
  subst hsz; subst hby
  have hone : oneCells (.raw (flat f B)) = true := by
    simp only [oneCells, List.all_eq_true]
    intro v hv
    obtain ⟨a, _, hv⟩ := List.mem_flatMap.1 hv
    exact h1 a v hv
  have hl : Nat.ble ((2 * n + 1000) * te.bytes) (2 ^ 48) = true := by rw [Nat.ble_eq]; exact hlim
  simp only [appendA, hti, htx, hn, hxi, cond_false, hd, hte, hb, hseg, hone, hl, Bool.and_true, cond_true]
  rw [if_neg (by omega)]

/-! ### A call over rows that came in -/
def renOf (as : List Loc) : Ren := fun i => as[i]?
def HoldsAll (W : World) (T : Nat → Prop) (ρ : Ren) : List AObj → List Loc → Prop
  | [], [] => True
  | o :: os, a :: as => OHolds ρ W T a (fun _ => False) o ∧ HoldsAll W T ρ os as
  | _, _ => False
theorem HoldsAll.get {W : World} {T : Nat → Prop} {ρ : Ren} : ∀ {os : List AObj} {as : List Loc}, HoldsAll W T ρ os as → as.length = os.length ∧ ∀ (i : Nat) (o : AObj), os[i]? = some o → ∃ a : Loc, as[i]? = some a ∧ OHolds ρ W T a (fun _ => False) o
  | [], [], _ => ⟨rfl, fun i o h => by simp at h⟩
  | o :: os, a :: as, ⟨h1, h2⟩ => by
    obtain ⟨g1, g2⟩ := h2.get
    refine ⟨by simp [g1], fun i x hx => ?_⟩
    cases i with
    | zero => simp at hx; subst hx; exact ⟨a, rfl, h1⟩
    | succ i => simpa using g2 i x (by simpa using hx)
theorem Sp.callsOver {P : Program} {f : FuncId} {args : List AV} {K : AV → Heap → Prop} (m : Nat) (os : List AObj) (as : List Loc) (hs : Sp P f args (hO m os) K) (hm : os.length = m) (W : World) (hh : HoldsAll W (fun b => W.heap.size ≤ b) (renOf as) os as) {vs : Array Value}
    (hv : LRel (renOf as) args vs.toList) (hK : ∀ v h, K v h → v = .lit (.bool true)) : Calls P f vs W (fun e w' => e = .returned (.bool true) ∧ Below W.heap.size W w') := by
  subst hm
  obtain ⟨g1, g2⟩ := hh.get
  have hR : Rel (hOf os) (renOf as) (fun b => W.heap.size ≤ b) W := by
    refine ⟨fun _ _ => False, fun i o hi => ?_, fun _ _ _ _ _ _ _ _ h => h.elim, fun _ _ _ _ h => h.elim, fun i hi => ?_, fun _ h => h⟩
    · rw [hOf_get] at hi
      exact g2 i o hi
    · rw [hOf_next] at hi
      simp only [renOf]
      rw [List.getElem?_eq_none]; omega
  refine (hs.2 _ _ W vs hR hv).mono ?_
  rintro e w' ⟨ρ', v, u, h', _, _, _, hu, rfl, hk, hKv⟩
  have := hK _ _ hKv
  subst this
  simp only [VRel] at hu
  subst hu
  exact ⟨rfl, hk.below⟩
end Go.Proofs.YtpbdlibgbkhlhaaGreat.SE
