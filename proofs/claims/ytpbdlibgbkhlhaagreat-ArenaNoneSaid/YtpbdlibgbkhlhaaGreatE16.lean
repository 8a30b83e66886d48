/- A call over a greater heap, with the objects it needs listed. -/
import Derived.Test.YtpbdlibgbkhlhaaGreatE15
namespace Go.Proofs.YtpbdlibgbkhlhaaGreat.SE
open Go

def FrFit (τ : Nat → Nat) (n : Nat) (h : Heap) : Nat → List AObj → Prop
  | _, [] => True
  | i, o :: os => (obelow n o = true ∧ ∃ o', h.get (τ i) = some o' ∧ fits τ o o') ∧ FrFit τ n h (i + 1) os
theorem FrFit.get {τ : Nat → Nat} {n : Nat} {h : Heap} : ∀ {os : List AObj} {i : Nat}, FrFit τ n h i os → ∀ j o, os[j]? = some o → obelow n o = true ∧ ∃ o', h.get (τ (i + j)) = some o' ∧ fits τ o o'
  | [], _, _, j, o, hj => by simp at hj
  | x :: os, i, hs, 0, o, hj => by simp at hj; subst hj; exact hs.1
  | x :: os, i, hs, j + 1, o, hj => by
    have := hs.2.get j o (by simpa using hj)
    rw [show i + (j + 1) = i + 1 + j by omega]
    exact this
def allBelow (n : Nat) : List Nat → Bool
  | [] => true
  | i :: l => Nat.blt i n && allBelow n l
theorem allBelow_get {n : Nat} : ∀ {l : List Nat}, allBelow n l = true → ∀ i, i < l.length → atL l i < n
  | [], _, i, hi => by simp at hi
  | a :: l, h, 0, _ => by
    simp only [allBelow, Bool.and_eq_true] at h
    exact nblt_iff.1 h.1
  | a :: l, h, i + 1, hi => by
    simp only [allBelow, Bool.and_eq_true] at h
    have := allBelow_get h.2 i (by simpa using hi)
    simpa [atL] using this

theorem Sp.frameL {P : Program} {f : FuncId} {args0 args : List AV} {h : Heap} {K0 : AV → Heap → Prop} (m : Nat) (ids : List Nat) (os : List AObj) (hs : Sp P f args0 (hO m os) K0) (hm : os.length = m) (hids : idsOk 0 ids m = true)
    (hlt : allBelow h.next ids = true) (hfit : FrFit (atL ids) m h 0 os) (hargs : lmap (atL ids) args0 = args) (hbel : lbelow m args0 = true) :
    Sp P f args h (fun v h' => ∃ v0 h0', K0 v0 h0' ∧ v = vmap (lay (atL ids) m h.next) v0 ∧ h' = mergeH (atL ids) (hO m os) h h0') := by
  subst hm
  obtain ⟨_, _, h3⟩ := idsOk_spec hids
  have hlen : ids.length = os.length := by simp only [idsOk, Bool.and_eq_true] at hids; exact Nat.eq_of_beq_eq_true hids.1.1.1
  refine Sp.frame (h0 := hOf os) (atL ids) hs (fun i o0 hi => ?_) h3 (fun i hi => allBelow_get hlt i (by rw [hlen]; exact hi)) hargs hbel
  rw [hOf_get] at hi
  obtain ⟨h1, o, ho, hf⟩ := hfit.get i o0 hi
  rw [Nat.zero_add] at ho
  exact ⟨(List.getElem?_eq_some_iff.1 hi).1, h1, o, ho, hf⟩

section
variable {P : Program} {tt : TT} {k n : Nat} {ops : Array Oper} {Q : Fr → Heap → Prop} {fr : Fr} {h : Heap}
/-- A call whose effect on a few objects is known. -/
theorem rplan_callL {i : Nat} {rest : List Stp} {o : Oper} {c : Call} {x : Operand} {g : FuncId} {first cap : List AV} {args0 : List AV} {K0 : AV → Heap → Prop} (m : Nat) (ids : List Nat) (os : List AObj)
    (hs : Sp P g args0 (hO m os) K0) (ho : ops[i]? = some o) (hop : o.op = .call c) (hcx : c.callee = .value x) (hw : wantedA ops o fr = some true) (hd : dstOk n o.dst = true) (hx : evA fr x = .fn (.func g) first cap)
    (hm : os.length = m) (hids : idsOk 0 ids m = true) (hlt : allBelow h.next ids = true) (hfit : FrFit (atL ids) m h 0 os) (hargs : first ++ c.args.toList.map (evA fr) ++ cap = lmap (atL ids) args0) (hbel : lbelow m args0 = true)
    (hn : ∀ v0 h0', K0 v0 h0' → RPlan P k n ops rest Q (putF fr o.dst (vmap (lay (atL ids) m h.next) v0)) (mergeH (atL ids) (hO m os) h h0')) : RPlan P k n ops (.xx i :: rest) Q fr h := by
  refine rplan_call ho hop hcx hw hd hx hargs (hs.frameL m ids os hm hids hlt hfit rfl hbel) ?_
  rintro v h' ⟨v0, h0', hK, rfl, rfl⟩
  exact hn v0 h0' hK
end

/-! ### An element of a row, stored -/
theorem Heap.set_set (h : Heap) (i : Nat) (x y : AObj) : (h.set i x).set i y = h.set i y := by
  cases h; simp only [Heap.set, HM.set_set]
theorem setN_row {i : Nat} : ∀ (vs : List Value) (o : Nat) (h : Heap) (x : AObj) (L : List Value), vs ≠ [] → h.get i = some x → isOwnRow x = true → x.conts = some (.raw L) → (∀ v ∈ vs, v.oneCell' = true) → o + vs.length ≤ L.length →
    setN h i o (vs.map .lit) = some (h.set i (rawSet x (Cs.spliceV o vs L)))
  | [], _, _, _, _, hne, _, _, _, _, _ => absurd rfl hne
  | v :: vs, o, h, x, L, _, hx, hrow, hc, h1, hl => by
    simp only [List.length_cons] at hl
    have hset : setCell h i o (.lit v) = some (h.set i (rawSet x (L.set o v))) := by
      have hb : Nat.blt o L.length = true := nblt_iff.2 (by omega)
      cases x <;> simp [isOwnRow] at hrow <;> simp [AObj.conts] at hc <;> subst hc <;> simp [setCell, hx, Cs.set, hb, rawSet]
    have hone : oneCell (.lit v) = true := h1 v (by simp)
    have e1 : ∀ M, rawSet (rawSet x (L.set o v)) M = rawSet x M := by intro M; cases x <;> rfl
    have hsp : Cs.spliceV (o + 1) vs (L.set o v) = Cs.spliceV o (v :: vs) L := by
      unfold Cs.spliceV
      apply List.ext_getElem?
      intro q
      rw [Cs.splice_get (o + 1) vs (L.set o v) (by rw [List.length_set]; omega) q, Cs.splice_get o (v :: vs) L (by simp; omega) q]
      simp only [List.length_cons, List.getElem?_set]
      by_cases hq : q = o
      · subst hq; rw [if_neg (by omega), if_pos rfl, if_pos (by omega), if_pos (by omega)]; simp
      · by_cases hq2 : o ≤ q ∧ q < o + (vs.length + 1)
        · rw [if_pos (by omega), if_pos hq2]
          rw [show q - o = (q - (o + 1)) + 1 by omega]; simp
        · rw [if_neg (by omega), if_neg hq2, if_neg (by omega)]
    cases vs with
    | nil =>
      have : L.set o v = Cs.spliceV o [v] L := by
        rw [← hsp]; simp [Cs.spliceV]
      simp [setN, hone, hset, this]
    | cons u us =>
      have ih := setN_row (u :: us) (o + 1) (h.set i (rawSet x (L.set o v))) (rawSet x (L.set o v)) (L.set o v) (by simp) (by rw [Heap.get_set, if_pos rfl]) (by cases x <;> simp [isOwnRow] at hrow <;> rfl)
        (by cases x <;> simp [isOwnRow] at hrow <;> rfl) (fun w hw => h1 w (by simp [hw])) (by rw [List.length_set]; simp at hl ⊢; omega)
      rw [Heap.set_set, e1, hsp] at ih
      simp only [List.map_cons, setN, hone, hset, cond_true] at ih ⊢
      exact ih
/-- An element of a row, stored. -/
theorem storeE {tt : TT} {t : TypeId} {ti : TI} {h : Heap} {i k m : Nat} {x : AObj} {α : Type} {f : α → List Value} {l : List α} {a : α} (hti : tt t = some ti) (hm : ti.size = m) (hm0 : 0 < m) (hf : ∀ a, (f a).length = m)
    (h1 : ∀ v ∈ f a, v.oneCell' = true) (hi : h.get i = some x) (hrow : isOwnRow x = true) (hc : x.conts = some (.raw (flat f l))) (hk : k < l.length) :
    storeA tt t (.ptr i (k * m)) (.agg ((f a).map .lit)) h = some (h.set i (rawSet x (flat f (l.set k a)))) := by
  subst hm
  have hb : Nat.beq ((f a).map AV.lit).length ti.size = true := by rw [List.length_map, hf]; exact Nat.beq_refl _
  have hl : k * ti.size + ti.size ≤ l.length * ti.size := by
    rw [← Nat.succ_mul]; exact Nat.mul_le_mul_right _ hk
  simp only [storeA, hti, acells, hb, cond_true]
  rw [setN_row (f a) (k * ti.size) h x (flat f l) (by intro he; have := hf a; rw [he] at this; simp at this; omega) hi hrow hc h1 (by rw [flat_length hf, hf]; exact hl), flat_set hf l k a hk]
theorem opX_store {tt : TT} {u : Bool} {t : TypeId} {a x : Operand} {ev : Operand → AV} {h h' : Heap} (hs : storeA tt t (ev a) (ev x) h = some h') : opX u tt (.store t a x) ev h = some (.lit undef, h') := by
  simp only [opX, hs]
theorem opX_append {tt : TT} {u : Bool} {t t' : TypeId} {a b : Operand} {ev : Operand → AV} {h : Heap} {r : AV × Heap} (hs : appendA tt t t' (ev a) (ev b) h = some r) : opX u tt (.call { callee := .builtin .append, args := #[a, b], argTypes := #[t, t'] }) ev h = some r := by
  simp only [opX, bltX, List.map, hs]
theorem opX_makeU {tt : TT} {t : TypeId} {l c : Operand} {ev : Operand → AV} {h : Heap} {r : AV × Heap} (hs : makeU tt t (ev l) (ev c) h = some r) : opX true tt (.makeSlice t l c) ev h = some r := by
  simp only [opX, hs, cond_true]
theorem binI {tt : TT} {op : BinOp} {t : TypeId} {k : IntKind} {a b : Int} {v : Value} (hsh : isSh op = false) (hv : intN op k a b = some v) : binN tt op t (.lit (.int k a)) (.lit (.int k b)) = some (.lit v) := by
  simp only [binN, hsh, cond_false, if_true, hv, lit?]
theorem add_nat {a b : Nat} (h : a + b < 2 ^ 62) : IntKind.i64.wrap ((a : Int) + (b : Int)) = ((a + b : Nat) : Int) := by
  rw [← Int.natCast_add]; exact wrap_nat h
theorem rem_nat {a b : Nat} (hb : 0 < b) : intN .rem .i64 (a : Int) (b : Int) = some (.int .i64 ((a % b : Nat) : Int)) := by
  simp only [intN]
  rw [if_neg (by omega), tmod_nat]

/-! ### Rows that are cut and grow -/
theorem sliceFrom {tt : TT} {t e : TypeId} {ti te : TI} {i n sz p m : Nat} {kk : IntKind} (hti : tt t = some ti) (hd : ti.desc = .slice e) (hte : tt e = some te) (hm : te.size = m) (hsz : sz = m) (hp : p < n) :
    sliceN tt t (.slU i 0 n sz) (some (.lit (.int kk (p : Int)))) none none = some (.slU i (p * m) (n - p) sz) := by
  subst hm
  have hb : bnds n n (some (.lit (.int kk (p : Int)))) none none = some (p, n, n) := by
    simp only [bnds, bnd]
    rw [if_pos ⟨by omega, by omega⟩, Int.toNat_natCast]
  simp only [sliceN, hti, hd, hte, hb]
  rw [if_pos ⟨.inl hp, hsz⟩, Nat.zero_add]
theorem sliceTo {tt : TT} {t e : TypeId} {ti te : TI} {i n sz p m : Nat} {kk : IntKind} (hti : tt t = some ti) (hd : ti.desc = .slice e) (hte : tt e = some te) (hm : te.size = m) (hsz : sz = m) (hp : p ≤ n) :
    sliceN tt t (.slU i 0 n sz) none (some (.lit (.int kk (p : Int)))) none = some (.slU i (0 * m) p sz) := by
  subst hm
  have hb : bnds n n none (some (.lit (.int kk (p : Int)))) none = some (0, p, n) := by
    simp only [bnds, bnd]
    rw [if_pos ⟨by omega, by omega⟩, Int.toNat_natCast]
  simp only [sliceN, hti, hd, hte, hb]
  rw [if_pos ⟨.inr trivial, hsz⟩, Nat.zero_add, Nat.sub_zero]
theorem makeRoom {tt : TT} {t e : TypeId} {ti te : TI} {h : Heap} {k k' : IntKind} {c m by' : Nat} (hti : tt t = some ti) (hd : ti.desc = .slice e) (hte : tt e = some te) (hz : Nat.beq te.zero.length te.size = true) (hm : te.size = m) (hby : te.bytes = by') (hc : by' * c ≤ 2 ^ 48) (hc' : c < 2 ^ 62) :
    makeU tt t (.lit (.int k 0)) (.lit (.int k' (c : Int))) h = some (h.new (fun k => .slU k 0 0 m) (.room e (.raw []))) := by
  subst hm; subst hby
  simp only [makeU, hti, hd, hte, hz, cond_true]
  rw [if_pos ⟨by omega, by rw [← Int.natCast_mul]; exact_mod_cast hc, by omega⟩]
/-- A row, and a row behind it. -/
theorem appendRow {tt : TT} {t xt e : TypeId} {ti tx te : TI} {h : Heap} {i sn n sz by' : Nat} {x : AV} {α : Type} {f : α → List Value} {A B : List α} (hf : ∀ a, (f a).length = sz) (hti : tt t = some ti) (htx : tt xt = some tx) (hxi : isIntD tx.desc = false) (hd : ti.desc = .slice e)
    (hte : tt e = some te) (hb : (Nat.beq te.bytes 0 || !Nat.beq te.zero.length te.size) = false) (hsz : te.size = sz) (hby : te.bytes = by') (hi : h.get i = some (.room e (.raw (flat f A)))) (hA : A.length = sn) (hn : lenA x = some n)
    (hseg : segOf h x n sz = some (.raw (flat f B))) (h1 : ∀ a, ∀ v ∈ f a, v.oneCell' = true) (hlim : (2 * (sn + n) + 1000) * by' ≤ 2 ^ 48) :
    appendA tt t xt (.slU i 0 sn sz) x h = some ((h.drop i).new (fun k => .slU k 0 (sn + n) sz) (.room e (.raw (flat f (A ++ B))))) := by
  subst hby
  refine appendU hti htx hxi hd hte hb hsz hi (by rw [flat_length hf, hA]) hn hseg ?_ ?_ hlim
  · rw [flat_append]; rfl
  · simp only [oneCells, List.all_eq_true]
    intro v hv
    obtain ⟨a, _, hv⟩ := List.mem_flatMap.1 hv
    exact h1 a v hv
end Go.Proofs.YtpbdlibgbkhlhaaGreat.SE
