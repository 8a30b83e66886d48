/- Functions without a Go text: comparing strings, and what is done at one stroke. -/
import Derived.Test.YtpbdlibgbkhlhaaGreatV15
import Derived.Laws.LoneSync
import Derived.Lib.Bytealg
namespace Go.Proofs.YtpbdlibgbkhlhaaGreat.SE
open Go

/-- The numbers of the objects at the ends are right. -/
def lenOk {X : Type} (x : X) : List (Out X) → Prop
  | [] => True
  | o :: r => (∀ y, (o.os x y).length = o.m) ∧ lenOk x r
theorem lenOk_mem {X : Type} {x : X} : ∀ {l : List (Out X)}, lenOk x l → ∀ o ∈ l, ∀ y, (o.os x y).length = o.m
  | o :: r, h, p, hp, y => by
    rcases List.mem_cons.1 hp with rfl | hp
    · exact h.1 y
    · exact lenOk_mem h.2 p hp y
theorem ctr_endL {P : Program} {tbl : WTbl} {tt : TT} (hT : tt.ok P) (hm : P.follows .mixedOrders = true) (ht : TblOk P tbl) {C : Ctr} (an : C.X → FuncId → Anns) (fuel d : Nat) {f : FuncId}
    (hk : ∀ x, (C.os x).length = C.k) (hl : ∀ x, lenOk x C.outs)
    (hq : ∀ x, C.pre x → wpF P tbl tt (an x) fuel d f (C.args x) (hO C.k (C.os x)) (fun v h' => endsP C.k x v h' C.outs)) : CtrOk P f C :=
  ctr_end hT hm ht an fuel d hk (fun x => lenOk_mem (hl x)) hq

/-- Such a function, and what it does. -/
def IsExt (P : Program) (f : FuncId) (e : Array Value → Sem Value) : Prop := ∃ fn, P.funcs[f]? = some fn ∧ (fn.name == "runtime.NumGoroutine") = false ∧ fn.body.isNone = true ∧ Extern.findNext fn = none ∧ Extern.find fn = some e
/-! ### Strings -/
noncomputable def cmpM (a b : ByteArray) : Int := hide (Lib.compareBytes a.data.toList b.data.toList)
theorem compare_less : ∀ a b : List UInt8, (Lib.compareBytes a b < 0 ↔ Op.bytesLess a b = true) ∧ (Lib.compareBytes a b = 0 ↔ a = b)
  | [], [] => by simp [Lib.compareBytes, Op.bytesLess]
  | [], _ :: _ => by simp [Lib.compareBytes, Op.bytesLess]
  | _ :: _, [] => by simp [Lib.compareBytes, Op.bytesLess]
  | a :: as, b :: bs => by
    obtain ⟨h1, h2⟩ := compare_less as bs
    by_cases hlt : a < b
    · have : a ≠ b := fun h => by subst h; exact absurd hlt (UInt8.lt_irrefl _)
      simp [Lib.compareBytes, Op.bytesLess, hlt, this]
    · by_cases hgt : b < a
      · have : a ≠ b := fun h => by subst h; exact absurd hgt (UInt8.lt_irrefl _)
        simp [Lib.compareBytes, Op.bytesLess, hlt, hgt, this]
      · have : a = b := UInt8.le_antisymm (UInt8.not_lt.1 hgt) (UInt8.not_lt.1 hlt)
        subst this
        simp [Lib.compareBytes, Op.bytesLess, hlt, h1, h2]
theorem toList_data (a : ByteArray) : a.toList = a.data.toList := by
  have go : ∀ (n i : Nat) (r : List UInt8), a.size - i = n → ByteArray.toList.loop a i r = r.reverse ++ a.data.toList.drop i := by
    intro n
    induction n with
    | zero =>
      intro i r h
      unfold ByteArray.toList.loop
      rw [if_neg (by omega)]
      have : a.data.toList.length ≤ i := by simp; have : a.data.size = a.size := rfl; omega
      rw [List.drop_eq_nil_of_le this, List.append_nil]
    | succ n ih =>
      intro i r h
      unfold ByteArray.toList.loop
      have hi : i < a.size := by omega
      have hi' : i < a.data.toList.length := by simpa using hi
      rw [if_pos hi, ih (i + 1) _ (by omega), List.drop_eq_getElem_cons hi']
      have : a.get! i = a.data.toList[i] := by
        simp [ByteArray.get!, getElem!_def, Array.getElem?_eq_getElem (show i < a.data.size from hi)]
      simp [this]
  have := go a.size 0 [] rfl
  simpa [ByteArray.toList] using this
theorem cmpM_less (a b : ByteArray) : cmpM a b < 0 ↔ Op.bytesLess a.toList b.toList = true := by
  unfold cmpM; rw [hide_eq, toList_data, toList_data]; exact (compare_less _ _).1
def cmpX : WTr := fun args h K => match args with
  | [.lit (.string a), .lit (.string b)] => K (.lit (.int .i64 (cmpM a b))) h
  | _ => False
theorem cmpX_ok {P : Program} {f : FuncId} (hf : IsExt P f Extern.BytealgCompare.compare) (args : List AV) (h : Heap) (K : AV → Heap → Prop) (hq : cmpX args h K) : XSp P f args h K := by
  obtain ⟨fn, h1, h2, h3, h4, h5⟩ := hf
  unfold cmpX at hq
  split at hq
  · rename_i a b
    intro ρ T w vs hR hl
    simp only [LRel, VRel] at hl
    obtain ⟨_, _, hvs, rfl, _, _, rfl, rfl, rfl⟩ := hl
    have : vs = #[.string a, .string b] := by cases vs; simp at hvs; rw [hvs]
    subst this
    refine ⟨_, _, .int .i64 (cmpM a b), w, ρ, ?_, fun _ _ => rfl, Ren.le_refl _, Nat.le_refl _, hR, by simp only [VRel], Keeps.refl _ _, hq⟩
    rw [run_callFunc_extern h1 h2 h3 h4 h5, Lib.run_compareString]
    unfold cmpM; rw [hide_eq]; rfl
  · exact hq.elim

/-! ### At one stroke -/
theorem Rel.ownCell {h h' : Heap} {ρ : Ren} {T : Nat → Prop} {w : World} (hR : Rel h ρ T w) {i o : Nat} {v : AV} (hs : setCell h i o v = some h') {a : Loc} (ha : ρ i = some a) : w.frozen? ⟨a.blk, a.base + o, none⟩ = false := by
  obtain ⟨S, r1, _⟩ := hR
  unfold setCell at hs
  split at hs
  · rename_i e c hx
    obtain ⟨a', ha', ho⟩ := r1 i _ hx
    obtain rfl : a' = a := Option.some.inj (ha'.symm.trans ha)
    obtain ⟨h0, hS, arr, hb, _⟩ := ho
    simp [World.frozen?, hb]
  · rename_i e c hx
    obtain ⟨a', ha', ho⟩ := r1 i _ hx
    obtain rfl : a' = a := Option.some.inj (ha'.symm.trans ha)
    obtain ⟨h0, hS, arr, hb, _⟩ := ho
    simp [World.frozen?, hb]
  · cases hs
def atI (h : Heap) (a : AV) (k : IntKind) (Q : Nat → Nat → Int → Prop) : Prop := match a with
  | .ptr i o => match cellAt h i o with
    | some (.lit (.int k' x)) => bif decide (k' = k) then Q i o x else False
    | _ => False
  | _ => False
theorem atI_ok {h : Heap} {ρ : Ren} {T : Nat → Prop} {w : World} (hR : Rel h ρ T w) {a : AV} {u : Value} {k : IntKind} {Q : Nat → Nat → Int → Prop} (hq : atI h a k Q) (hu : VRel ρ a u) :
    ∃ i o x b, u = .pointer (some ⟨b.blk, b.base + o, none⟩) ∧ ρ i = some b ∧ w.cell? ⟨b.blk, b.base + o, none⟩ = some (.int k x) ∧ Q i o x := by
  unfold atI at hq
  split at hq
  · rename_i i o
    split at hq
    · rename_i k' x hc
      by_cases hk : k' = k
      · subst hk
        simp only [decide_true, cond_true] at hq
        obtain ⟨b, hb, y, hy, hr⟩ := hR.cell hc
        simp only [VRel] at hr hu
        obtain ⟨b', hb', rfl⟩ := hu
        obtain rfl : b' = b := Option.some.inj (hb'.symm.trans hb)
        subst hr
        exact ⟨i, o, x, b', rfl, hb, hy, hq⟩
      · simp [hk] at hq
    · exact hq.elim
  · exact hq.elim
def putI (h : Heap) (i o : Nat) (k : IntKind) (y : Int) (Q : Heap → Prop) : Prop := match setCell h i o (.lit (.int k y)) with
  | some h' => Q h'
  | none => False
theorem putI_ok {P : Program} {h : Heap} {ρ : Ren} {T : Nat → Prop} {w : World} (hR : Rel h ρ T w) {i o : Nat} {k : IntKind} {y : Int} {Q : Heap → Prop} {b : Loc} (hq : putI h i o k y Q) (hb : ρ i = some b) :
    ∃ h', w.frozen? ⟨b.blk, b.base + o, none⟩ = false ∧ Rel h' ρ T (w.setCell ⟨b.blk, b.base + o, none⟩ (.int k y)) ∧ h'.next = h.next ∧ Keeps T w (w.setCell ⟨b.blk, b.base + o, none⟩ (.int k y)) ∧ Q h' := by
  unfold putI at hq
  split at hq
  · rename_i h' hs
    obtain ⟨_, h2, h3, h4⟩ := setCell_ok (P := P) hR hs hb rfl (u := .int k y) (by simp only [VRel])
    exact ⟨h', hR.ownCell hs hb, h2, h3, h4, hq⟩
  · exact hq.elim
def loadX (k : IntKind) : WTr := fun args h K => match args with
  | [a] => atI h a k fun _ _ x => K (.lit (.int k x)) h
  | _ => False
def storeX (k : IntKind) : WTr := fun args h K => match args with
  | [a, .lit (.int k' y)] => bif decide (k' = k) then atI h a k fun i o _ => putI h i o k y fun h' => K (.tup []) h' else False
  | _ => False
def addX (k : IntKind) : WTr := fun args h K => match args with
  | [a, .lit (.int k' y)] => bif decide (k' = k) then atI h a k fun i o x => arith k (x + y) fun
    | .lit (.int k2 s) => bif decide (k2 = k) then putI h i o k s fun h' => K (.lit (.int k s)) h' else False
    | _ => False else False
  | _ => False
def casX (k : IntKind) : WTr := fun args h K => match args with
  | [a, .lit (.int k' x0), .lit (.int k2 y)] => bif decide (k' = k) && decide (k2 = k) then atI h a k fun i o x => cP (decide (x = x0)) (putI h i o k y fun h' => K (.lit (.bool true)) h') (putI h i o k y fun _ => K (.lit (.bool false)) h) else False
  | _ => False
def swapX (k : IntKind) : WTr := fun args h K => match args with
  | [a, .lit (.int k' y)] => bif decide (k' = k) then atI h a k fun i o x => putI h i o k y fun h' => K (.lit (.int k x)) h' else False
  | _ => False
section
variable {P : Program} {f : FuncId} {k : IntKind} (args : List AV) (h : Heap) (K : AV → Heap → Prop)
theorem vs1 {vs : Array Value} {a : Value} (h : vs.toList = [a]) : vs = #[a] := by cases vs; simp at h; rw [h]
theorem vs2 {vs : Array Value} {a b : Value} (h : vs.toList = [a, b]) : vs = #[a, b] := by cases vs; simp at h; rw [h]
theorem vs3 {vs : Array Value} {a b c : Value} (h : vs.toList = [a, b, c]) : vs = #[a, b, c] := by cases vs; simp at h; rw [h]
theorem loadX_ok (hf : IsExt P f (Extern.Atomic.loadT (.int k))) (hq : loadX k args h K) : XSp P f args h K := by
  obtain ⟨fn, h1, h2, h3, h4, h5⟩ := hf
  unfold loadX at hq
  split at hq
  · intro ρ T w vs hR hl
    simp only [LRel] at hl
    obtain ⟨u, _, hvs, hu, rfl⟩ := hl
    obtain ⟨i, o, x, b, rfl, hb, hc, hq⟩ := atI_ok hR hq hu
    rw [vs1 hvs]
    exact ⟨_, _, _, w, ρ, run_call_load h1 h2 h3 h4 k h5 hc, fun _ _ => rfl, Ren.le_refl _, Nat.le_refl _, hR, by simp only [VRel], Keeps.refl _ _, hq⟩
  · exact hq.elim
theorem storeX_ok (hf : IsExt P f Extern.Atomic.storeT) (hq : storeX k args h K) : XSp P f args h K := by
  obtain ⟨fn, h1, h2, h3, h4, h5⟩ := hf
  unfold storeX at hq
  split at hq
  · rename_i a k' y
    by_cases hk : k' = k
    · subst hk
      simp only [decide_true, cond_true] at hq
      intro ρ T w vs hR hl
      simp only [LRel, VRel] at hl
      obtain ⟨u, _, hvs, hu, _, _, rfl, rfl, rfl⟩ := hl
      obtain ⟨i, o, x, b, rfl, hb, hc, hq⟩ := atI_ok hR hq hu
      obtain ⟨h', g1, g2, g3, g4, hq⟩ := putI_ok (P := P) hR hq hb
      rw [vs2 hvs]
      exact ⟨_, _, _, _, ρ, run_call_store h1 h2 h3 h4 h5 hc g1, fun _ _ => rfl, Ren.le_refl _, by omega, g2, by simp only [VRel]; exact ⟨_, rfl, .nil⟩, g4, hq⟩
    · simp [hk] at hq
  · exact hq.elim
theorem run_add (x y : Int) (w : World) : (Op.intArith .add k x y).run P w = .ok (.int k (k.wrap (x + y))) w := by simp [Op.intArith]
theorem addX_ok (hf : IsExt P f (Extern.Atomic.update (Op.intArith .add) k true)) (hq : addX k args h K) : XSp P f args h K := by
  obtain ⟨fn, h1, h2, h3, h4, h5⟩ := hf
  unfold addX at hq
  split at hq
  · rename_i a k' y
    by_cases hk : k' = k
    · subst hk
      simp only [decide_true, cond_true] at hq
      intro ρ T w vs hR hl
      simp only [LRel, VRel] at hl
      obtain ⟨u, _, hvs, hu, _, _, rfl, rfl, rfl⟩ := hl
      obtain ⟨i, o, x, b, rfl, hb, hc, hq⟩ := atI_ok hR hq hu
      have hq := arith_ok hq
      simp only [decide_true, cond_true] at hq
      obtain ⟨h', g1, g2, g3, g4, hq⟩ := putI_ok (P := P) hR hq hb
      rw [vs2 hvs]
      exact ⟨_, _, _, _, ρ, run_call_add h1 h2 h3 h4 k' h5 hc g1 (run_add _ _ _), fun _ _ => rfl, Ren.le_refl _, by omega, g2, by simp only [VRel], g4, hq⟩
    · simp [hk] at hq
  · exact hq.elim
theorem casX_ok (hf : IsExt P f (Extern.Atomic.casT (.int k))) (hq : casX k args h K) : XSp P f args h K := by
  obtain ⟨fn, h1, h2, h3, h4, h5⟩ := hf
  unfold casX at hq
  split at hq
  · rename_i a k' x0 k2 y
    cases hkk : (decide (k' = k) && decide (k2 = k)) with
    | false => rw [hkk] at hq; exact hq.elim
    | true =>
      simp only [Bool.and_eq_true, decide_eq_true_eq] at hkk
      obtain ⟨rfl, rfl⟩ := hkk
      simp only [decide_true, Bool.and_self, cond_true] at hq
      intro ρ T w vs hR hl
      simp only [LRel, VRel] at hl
      obtain ⟨u, _, hvs, hu, _, _, rfl, rfl, _, _, rfl, rfl, rfl⟩ := hl
      obtain ⟨i, o, x, b, rfl, hb, hc, hq⟩ := atI_ok hR hq hu
      rw [vs3 hvs]
      rcases cP_elim hq with ⟨he, hq2⟩ | ⟨he, hq2⟩
      · have he : x = x0 := of_decide_eq_true he
        obtain ⟨h', g1, g2, g3, g4, hq3⟩ := putI_ok (P := P) hR hq2 hb
        refine ⟨.lit (.bool true), h', .bool true, _, ρ, ?_, fun _ _ => rfl, Ren.le_refl _, by omega, g2, by simp only [VRel], g4, hq3⟩
        rw [← he]
        exact run_call_cas_hit h1 h2 h3 h4 _ h5 hc g1
      · have he := of_decide_eq_false he
        obtain ⟨h', g1, g2, g3, g4, hq3⟩ := putI_ok (P := P) hR hq2 hb
        exact ⟨_, _, _, w, ρ, run_call_cas_miss h1 h2 h3 h4 _ h5 hc g1 he, fun _ _ => rfl, Ren.le_refl _, Nat.le_refl _, hR, by simp only [VRel], Keeps.refl _ _, hq3⟩
  · exact hq.elim
end
end Go.Proofs.YtpbdlibgbkhlhaaGreat.SE
