/- Closed calls, run: with functions that have no body, maps, scopes. Where a run stops it says where. -/
import Derived.Test.YtpbdlibgbkhlhaaGreatV16
import Derived.Test.YtpbdlibgbkhlhaaGreatV17
import Derived.Laws.IdiomStrings
namespace Go.Proofs.YtpbdlibgbkhlhaaGreat.SE
open Go

inductive Rs (α : Type) where
  | ok (a : α)
  | no (l : List Nat)
abbrev XFn := List AV → Heap → Option (AV × Heap)
abbrev XTbl := List (FuncId × XFn)
def lookX : XTbl → FuncId → Option XFn
  | [], _ => none
  | (f, T) :: r, g => bif Nat.beq f g then some T else lookX r g
def nbP (a b : Nat) : Option Unit := bif Nat.beq a b then some () else none

/-! ### Maps -/
def rFind (key : Value) : List (AV × AV × Nat) → Nat → Option (Option (Nat × AV))
  | [], _ => some none
  | (.lit u, v, _) :: r, i => match sameK key u with
    | some b => bif b then some (some (i, v)) else rFind key r (i + 1)
    | none => none
  | _ :: _, _ => none
def rMakeMap (tt : TT) (t : TypeId) (hint : Bool) (h : Heap) : Option (AV × Heap) := bif hint then none else
  match tt t with
  | some ti => match ti.desc with
    | .map _ _ => some (.mp h.next, h.push (.map [] 0))
    | _ => none
  | none => none
def rMapPut (tt : TT) (t : TypeId) (m k v : AV) (h : Heap) : Option (AV × Heap) :=
  match mapTy tt t, m, k with
  | some (tk, _), .mp i, .lit key => match h.get i with
    | some (.map es clk) => bif keyFits tk.desc key then (match rFind key es 0 with
        | some none => some (.lit undef, h.set i (.map (es ++ [(.lit key, v, clk)]) (clk + 1)))
        | some (some (j, _)) => some (.lit undef, h.set i (.map (es.modify j fun x => (.lit key, v, x.2.2)) clk))
        | none => none) else none
    | _ => none
  | _, _, _ => none
def rLookup (tt : TT) (t : TypeId) (x k : AV) (ok : Bool) (h : Heap) : Option (AV × Heap) :=
  match mapTy tt t, k with
  | some (tk, te), .lit key => bif keyFits tk.desc key then (match x with
    | .lit (.map none) => some (okV ok (avOf te.zv) false, h)
    | .mp i => match h.get i with
      | some (.map es _) => match rFind key es 0 with
        | some none => some (okV ok (avOf te.zv) false, h)
        | some (some (_, v)) => some (okV ok v true, h)
        | none => none
      | _ => none
    | _ => none) else none
  | _, _ => none
def zerosG (z : List Value) (n : Nat) : List Value := (List.range (n * z.length)).map fun j => z.getD (j % z.length) undef
def rClear (tt : TT) (t : TypeId) (x : AV) (h : Heap) : Option (AV × Heap) :=
  match tt t with
  | some ti => match ti.desc with
    | .slice e => match tt e with
      | some te => match x with
        | .sl i o n _ => bif Nat.beq n 0 then none else bif oneCells (.raw (zerosG te.zero n)) then (match putSeg h i o (.raw (zerosG te.zero n)) with
          | some h' => some (.tup [], h')
          | none => none) else none
        | _ => none
      | none => none
    | _ => none
  | none => none
/-! ### A range over a map of which at most one entry is left -/
def rRange (tt : TT) (t : TypeId) (x : AV) (h : Heap) : Option (AV × Heap) :=
  match tt t with
  | some ti => match ti.desc with
    | .map _ _ => match x with
      | .lit (.map none) => some (.ptr h.next 0, h.push (.iter none 0 [] 0))
      | .mp i => match h.get i with
        | some (.map _ clk) => some (.ptr h.next 0, h.push (.iter (some i) clk [] clk))
        | _ => none
      | _ => none
    | _ => none
  | none => none
def rNext (it : AV) (h : Heap) : Option (AV × Heap) :=
  match it with
  | .ptr r 0 => match h.get r with
    | some (.iter none _ _ _) => some (.tup [.lit (.bool false)], h)
    | some (.iter (some i) since seen last) => match h.get i with
      | some (.map es clk) => bif !seen.isEmpty && !es.isEmpty && es.all (fun x => decide (x.2.2 ≥ last)) then none else
        (match es.filter (fun x => !seen.contains x.2.2) with
        | [] => some (.tup [.lit (.bool false)], h)
        | [x] => bif decide (x.2.2 < since) then some (.tup [.lit (.bool true), x.1, x.2.1], h.set r (.iter (some i) since (seen ++ [x.2.2]) clk)) else none
        | _ => none)
      | _ => none
    | _ => none
  | _ => none
def rEntry (it : AV) (h : Heap) : Option (AV × Heap) :=
  match it with
  | .ptr r 0 => match h.get r with
    | some (.iter (some i) _ seen last) => match h.get i, seen.getLast? with
      | some (.map es clk), some st => bif decide (clk = last) then (match es.find? (fun x => x.2.2 == st) with
        | some x => some (.tup [x.1, x.2.1], h)
        | none => none) else none
      | _, _ => none
    | _ => none
  | _ => none
/-! ### A text of bytes -/
def bytesG : List AV → Option (List UInt8)
  | [] => some []
  | .lit (.int .u8 z) :: l => bif decide (0 ≤ z) && decide (z < 256) then (match bytesG l with
    | some r => some (UInt8.ofNat z.toNat :: r)
    | none => none) else none
  | _ :: _ => none
def rText (tt : TT) (s d : TypeId) (x : AV) (h : Heap) : Option (AV × Heap) :=
  match tt s, tt d with
  | some ts, some td => match ts.desc, td.desc with
    | .slice e, .string => match tt e with
      | some te => match te.desc with
        | .int .u8 => match x with
          | .slU i o n _ => match getN h i o n with
            | some l => match bytesG l with
              | some r => some (.lit (.string ⟨r.toArray⟩), h)
              | none => none
            | none => none
          | .sl i o n _ => match getN h i o n with
            | some l => match bytesG l with
              | some r => some (.lit (.string ⟨r.toArray⟩), h)
              | none => none
            | none => none
          | _ => none
        | _ => none
      | none => none
    | _, _ => none
  | _, _ => none
/-- Operations beside those that stepX knows. -/
def rX (tt : TT) (op : Op) (ev : Operand → AV) (h : Heap) : Option (AV × Heap) :=
  match op with
  | .makeMap t r => rMakeMap tt t r.isSome h
  | .insert t m k x => rMapPut tt t (ev m) (ev k) (ev x) h
  | .mapUpdate t m k x => rMapPut tt t (ev m) (ev k) (ev x) h
  | .lookup t m k ok => rLookup tt t (ev m) (ev k) ok h
  | .range t x => rRange tt t (ev x) h
  | .next it isString => bif isString then none else rNext (ev it) h
  | .entry it => rEntry (ev it) h
  | .convert s d x => rText tt s d (ev x) h
  | .call c => match c.callee with
    | .builtin .clear => match c.argTypes.toList, c.args.toList.map ev with
      | t :: _, x :: _ => rClear tt t x h
      | _, _ => none
    | _ => none
  | _ => none
def stepG (tt : TT) (n : Nat) (ops : Array Oper) (i : Nat) (fr : Fr) (h : Heap) : Option (Fr × Heap) :=
  match ops[i]? with
  | some o => bif dstOk n o.dst then (match wantedA ops o fr with
    | some true => match rX tt o.op (evA fr) h with
      | some (v, h') => some (putF fr o.dst v, h')
      | none => none
    | _ => none) else none
  | none => none

/-! ### The run -/
section
variable {α : Type}
abbrev RunG (α : Type) := FuncId → List AV → Heap → (AV → Heap → Rs α) → Rs α
def opsG (call : RunG α) (tt : TT) (g n : Nat) (ops : Array Oper) (Q : Fr → Heap → Rs α) : List Stp → Fr → Heap → Rs α
  | [], fr, h => Q fr h
  | .nn i :: r, fr, h => match stepN tt n ops i fr with
    | some fr' => opsG call tt g n ops Q r fr' h
    | none => .no [g, i, 1]
  | .rr l :: r, fr, h => match stillL tt n ops l fr h with
    | some fr' => opsG call tt g n ops Q r fr' h
    | none => .no (g :: 2 :: l)
  | .xx i :: r, fr, h => match callOf n ops i fr with
    | some (g', args, d) => call g' args h fun v h' => opsG call tt g n ops Q r (putF fr d v) h'
    | none => match stepX false tt n ops i fr h with
      | some (fr', h') => opsG call tt g n ops Q r fr' h'
      | none => match stepG tt n ops i fr h with
        | some (fr', h') => opsG call tt g n ops Q r fr' h'
        | none => .no [g, i, 3]
def codeG (call : RunG α) (tt : TT) (g n : Nat) : Nat → Code → (Exit → Fr → Heap → Rs α) → Fr → Heap → Rs α
  | 0, _, _, _, _ => .no [g, 5]
  | _ + 1, .skip, Q, fr, h => Q .normal fr h
  | _ + 1, .ret, Q, fr, h => Q .ret fr h
  | _ + 1, .exit id, Q, fr, h => Q (.exit id) fr h
  | _ + 1, .label _, Q, fr, h => Q .normal fr h
  | f + 1, .scope x, Q, fr, h => codeG call tt g n f x Q fr h
  | f + 1, .seq x y, Q, fr, h => codeG call tt g n f x (fun e fr' h' => match e with
    | .normal => codeG call tt g n f y Q fr' h'
    | e => Q e fr' h') fr h
  | f + 1, .cond c x y, Q, fr, h => match evA fr c with
    | .lit (.bool b) => bif b then codeG call tt g n f x Q fr h else codeG call tt g n f y Q fr h
    | _ => .no [g, 6]
  | f + 1, .block id x, Q, fr, h => codeG call tt g n f x (fun e fr' h' => match e with
    | .exit id' => bif Nat.beq id' id then Q .normal fr' h' else Q (.exit id') fr' h'
    | e => Q e fr' h') fr h
  | f + 1, .loop x, Q, fr, h => codeG call tt g n f x (fun e fr' h' => match e with
    | .normal => codeG call tt g n f (.loop x) Q fr' h'
    | e => Q e fr' h') fr h
  | _ + 1, .region id ops draw, Q, fr, h => match planFor ops draw with
    | some pl => opsG call tt (1000 * g + id) n ops (Q .normal) pl fr h
    | none => .no [g, id, 7]
  | _ + 1, _, _, _, _ => .no [g, 8]
def runG (P : Program) (xt : XTbl) (tt : TT) (fuel : Nat) : Nat → RunG α
  | 0, g, _, _, _ => .no [g, 9]
  | d + 1, g, args, h, K => match lookX xt g with
    | some T => match T args h with
      | some (v, h') => K v h'
      | none => .no [g, 10]
    | none => match P.funcs[g]? with
      | some fn => match fn.body with
        | some c => bif !(fn.name == "runtime.NumGoroutine") && Nat.ble args.length fn.ntmps then codeG (runG P xt tt fuel d) tt g fn.ntmps fuel c (fun e fr' h' => bif isDone e then (match retA tt fn fr' h' with
            | some v => K v h'
            | none => .no [g, 11]) else .no [g, 12]) (entryF args) h else .no [g, 13]
        | none => .no [g, 14]
      | none => .no [g, 15]
end

/-! ### Functions without a body -/
def atG (h : Heap) (a : AV) (k : IntKind) : Option (Nat × Nat × Int) := match a with
  | .ptr i o => match cellAt h i o with
    | some (.lit (.int k' x)) => bif decide (k' = k) then some (i, o, x) else none
    | _ => none
  | _ => none
def putG (h : Heap) (i o : Nat) (k : IntKind) (y : Int) : Option Heap := setCell h i o (.lit (.int k y))
def loadG (k : IntKind) : XFn := fun args h => match args with
  | [a] => match atG h a k with
    | some (_, _, x) => some (.lit (.int k x), h)
    | none => none
  | _ => none
def storeG (k : IntKind) : XFn := fun args h => match args with
  | [a, .lit (.int k' y)] => bif decide (k' = k) then (match atG h a k with
    | some (i, o, _) => match putG h i o k y with
      | some h' => some (.tup [], h')
      | none => none
    | none => none) else none
  | _ => none
def sumG (k : IntKind) (z : Int) : Option Int := match k with
  | .i64 => if -9223372036854775808 ≤ z ∧ z ≤ 9223372036854775807 then some z else none
  | k => some (k.wrap z)
def addG (k : IntKind) : XFn := fun args h => match args with
  | [a, .lit (.int k' y)] => bif decide (k' = k) then (match atG h a k with
    | some (i, o, x) => match sumG k (x + y) with
      | some z => match putG h i o k z with
        | some h' => some (.lit (.int k z), h')
        | none => none
      | none => none
    | none => none) else none
  | _ => none
def casG (k : IntKind) : XFn := fun args h => match args with
  | [a, .lit (.int k' x0), .lit (.int k2 y)] => bif decide (k' = k) && decide (k2 = k) then (match atG h a k with
    | some (i, o, x) => match putG h i o k y with
      | some h' => bif decide (x = x0) then some (.lit (.bool true), h') else some (.lit (.bool false), h)
      | none => none
    | none => none) else none
  | _ => none
def swapG (k : IntKind) : XFn := fun args h => match args with
  | [a, .lit (.int k' y)] => bif decide (k' = k) then (match atG h a k with
    | some (i, o, x) => match putG h i o k y with
      | some h' => some (.lit (.int k x), h')
      | none => none
    | none => none) else none
  | _ => none
/-! ### Proofs -/
theorem rFind_ok {key : Value} : ∀ {es : List (AV × AV × Nat)} {i : Nat} {r : Option (Nat × AV)}, rFind key es i = some r → vFind key es i (fun x => x = r)
  | [], i, r, h => by simp only [rFind, Option.some.injEq] at h; simp only [vFind]; exact h
  | (a, v, c) :: es, i, r, h => by
    cases a with
    | lit u =>
      simp only [rFind] at h
      simp only [vFind]
      split at h
      · rename_i b hb
        simp only [hb]
        cases b with
        | true => simp only [cond_true, Option.some.injEq] at h; simp only [cP]; exact h
        | false => simp only [cond_false] at h; simp only [cP]; exact rFind_ok h
      · cases h
    | _ => simp [rFind] at h
theorem vFind_mono {key : Value} {Q Q' : Option (Nat × AV) → Prop} : ∀ {es : List (AV × AV × Nat)} {i : Nat}, vFind key es i Q → (∀ r, Q r → Q' r) → vFind key es i Q'
  | [], i, h, hq => hq _ h
  | (a, v, c) :: es, i, h, hq => by
    cases a with
    | lit u =>
      simp only [vFind] at h ⊢
      split at h
      · rename_i b hb
        cases b with
        | true => exact hq _ h
        | false => exact vFind_mono (es := es) h hq
      · exact h.elim
    | _ => exact h.elim
theorem rMakeMap_ok {tt : TT} {t : TypeId} {hint : Bool} {h h' : Heap} {v : AV} (hr : rMakeMap tt t hint h = some (v, h')) : vMakeMap tt t hint h (fun v1 h1 => v1 = v ∧ h1 = h') := by
  unfold rMakeMap at hr
  unfold vMakeMap
  cases hint with
  | true => simp at hr
  | false =>
    simp only [cond_false] at hr ⊢
    split at hr
    · rename_i ti hti
      rw [hti]; simp only
      split at hr
      · rename_i k e hd
        rw [hd]; simp only
        simp only [Option.some.injEq, Prod.mk.injEq] at hr
        exact ⟨hr.1, hr.2⟩
      · cases hr
    · cases hr
theorem rMapPut_ok {tt : TT} {t : TypeId} {m k x : AV} {h h' : Heap} {v : AV} (hr : rMapPut tt t m k x h = some (v, h')) : v = .lit undef ∧ vMapPut tt t m k x h (fun h1 => h1 = h') := by
  unfold rMapPut at hr
  unfold vMapPut
  split at hr
  · rename_i tk te i key hty
    rw [hty]; simp only
    split at hr
    · rename_i es clk hi
      simp only [hi]
      cases hk : keyFits tk.desc key <;> rw [hk] at hr
      · cases hr
      · simp only [cond_true] at hr ⊢
        split at hr
        · rename_i hf
          cases hr
          refine ⟨rfl, ?_⟩
          have := rFind_ok hf
          rw [show (fun x => x = none) = (fun (x : Option (Nat × AV)) => x = none) from rfl] at this
          exact vFind_mono this fun r hr => by subst hr; rfl
        · rename_i j y hf
          cases hr
          exact ⟨rfl, vFind_mono (rFind_ok hf) fun r hr => by subst hr; rfl⟩
        · cases hr
    · cases hr
  · cases hr
theorem rLookup_ok {tt : TT} {t : TypeId} {x k : AV} {ok : Bool} {h h' : Heap} {v : AV} (hr : rLookup tt t x k ok h = some (v, h')) : h' = h ∧ vLookup tt t x k ok h (fun r => r = v) := by
  unfold rLookup at hr
  unfold vLookup
  split at hr
  · rename_i tk te key hty
    rw [hty]; simp only
    cases hk : keyFits tk.desc key <;> rw [hk] at hr
    · cases hr
    · simp only [cond_true] at hr ⊢
      split at hr
      · cases hr; exact ⟨rfl, rfl⟩
      · rename_i i
        simp only
        split at hr
        · rename_i es clk hi
          simp only [hi]
          split at hr
          · rename_i hf
            cases hr
            exact ⟨rfl, vFind_mono (rFind_ok hf) fun r hr => by subst hr; rfl⟩
          · rename_i j y hf
            cases hr
            exact ⟨rfl, vFind_mono (rFind_ok hf) fun r hr => by subst hr; rfl⟩
          · cases hr
        · cases hr
      · cases hr
  · cases hr

theorem atG_ok {h : Heap} {a : AV} {k : IntKind} {i o : Nat} {x : Int} (hg : atG h a k = some (i, o, x)) {Q : Nat → Nat → Int → Prop} (hq : Q i o x) : atI h a k Q := by
  unfold atG at hg
  unfold atI
  split at hg
  · rename_i i' o'
    simp only
    split at hg
    · rename_i k' x' hc
      simp only [hc]
      cases hk : decide (k' = k) <;> rw [hk] at hg
      · cases hg
      · simp only [cond_true] at hg ⊢
        cases hg; exact hq
    · cases hg
  · cases hg
theorem putG_ok {h h' : Heap} {i o : Nat} {k : IntKind} {y : Int} (hg : putG h i o k y = some h') {Q : Heap → Prop} (hq : Q h') : putI h i o k y Q := by
  unfold putG at hg
  unfold putI
  rw [hg]; exact hq
theorem sumG_ok {k : IntKind} {z z' : Int} (hg : sumG k z = some z') {Q : AV → Prop} (hq : Q (.lit (.int k z'))) : arith k z Q := by
  unfold sumG at hg
  unfold arith
  split at hg
  · split at hg
    · rename_i hI
      cases hg
      exact ⟨hI, hq⟩
    · cases hg
  · cases hg
    split
    · rename_i hne; exact (hne rfl).elim
    · exact hq
section
variable {k : IntKind} {args : List AV} {h h' : Heap} {v : AV} {K : AV → Heap → Prop}
theorem loadG_ok (hg : loadG k args h = some (v, h')) (hq : K v h') : loadX k args h K := by
  unfold loadG at hg
  unfold loadX
  split at hg
  · simp only
    split at hg
    · rename_i ha
      cases hg
      exact atG_ok ha hq
    · cases hg
  · cases hg
theorem storeG_ok (hg : storeG k args h = some (v, h')) (hq : K v h') : storeX k args h K := by
  unfold storeG at hg
  unfold storeX
  split at hg
  · rename_i a k' y
    simp only
    cases hk : decide (k' = k) <;> rw [hk] at hg
    · cases hg
    · simp only [cond_true] at hg ⊢
      split at hg
      · rename_i i o x ha
        split at hg
        · rename_i h2 hp
          cases hg
          exact atG_ok ha (putG_ok hp hq)
        · cases hg
      · cases hg
  · cases hg
theorem addG_ok (hg : addG k args h = some (v, h')) (hq : K v h') : addX k args h K := by
  unfold addG at hg
  unfold addX
  split at hg
  · rename_i a k' y
    simp only
    cases hk : decide (k' = k) <;> rw [hk] at hg
    · cases hg
    · simp only [cond_true] at hg ⊢
      split at hg
      · rename_i i o x ha
        split at hg
        · rename_i z hz
          split at hg
          · rename_i h2 hp
            cases hg
            refine atG_ok ha (sumG_ok hz ?_)
            simp only [decide_true, cond_true]
            exact putG_ok hp hq
          · cases hg
        · cases hg
      · cases hg
  · cases hg
theorem casG_ok (hg : casG k args h = some (v, h')) (hq : K v h') : casX k args h K := by
  unfold casG at hg
  unfold casX
  split at hg
  · rename_i a k' x0 k2 y
    simp only
    cases hk : (decide (k' = k) && decide (k2 = k)) <;> rw [hk] at hg
    · cases hg
    · simp only [cond_true] at hg ⊢
      split at hg
      · rename_i i o x ha
        split at hg
        · rename_i h2 hp
          refine atG_ok ha ?_
          cases hx : decide (x = x0) <;> rw [hx] at hg
          · simp only [cond_false] at hg; cases hg; simp only [cP]; exact putG_ok hp hq
          · simp only [cond_true] at hg; cases hg; simp only [cP]; exact putG_ok hp hq
        · cases hg
      · cases hg
  · cases hg
theorem swapG_ok (hg : swapG k args h = some (v, h')) (hq : K v h') : swapX k args h K := by
  unfold swapG at hg
  unfold swapX
  split at hg
  · rename_i a k' y
    simp only
    cases hk : decide (k' = k) <;> rw [hk] at hg
    · cases hg
    · simp only [cond_true] at hg ⊢
      split at hg
      · rename_i i o x ha
        split at hg
        · rename_i h2 hp
          cases hg
          exact atG_ok ha (putG_ok hp hq)
        · cases hg
      · cases hg
  · cases hg
end

/-! ### clear -/
theorem zerosG_arr {z : Array Value} {n : Nat} (zl : List Value) (hz : z.toList = zl) : (Builtin.zeroCells z n).toList = zerosG zl n := by
  subst hz
  have hsz : z.toList.length = z.size := by simp
  simp only [Builtin.zeroCells, zerosG, Array.toList_map, Array.toList_range, hsz]
  apply List.map_congr_left
  intro j hj
  have hj := List.mem_range.1 hj
  have hpos : 0 < z.size := by
    rcases Nat.eq_zero_or_pos z.size with h0 | h0
    · rw [h0] at hj; simp at hj
    · exact h0
  have hlt : j % z.size < z.size := Nat.mod_lt _ hpos
  simp [hlt]
theorem rClear_ok {P : Program} {tt : TT} (hT : tt.ok P) {h h' : Heap} {ρ : Ren} {T : Nat → Prop} {w : World} (hR : Rel h ρ T w) {t ty : TypeId} {x v : AV} {u : Value} {ts : Array TypeId} {us : Array Value}
    (hr : rClear tt t x h = some (v, h')) (hu : VRel ρ x u) (ht0 : ts[0]? = some t) (hu0 : us[0]? = some u) : XOk P (Builtin.clear_ ts ty us) h ρ T w v h' := by
  unfold rClear at hr
  split at hr
  · rename_i ti hti
    split at hr
    · rename_i e hd
      split at hr
      · rename_i te hte
        split at hr
        · rename_i i o n c
          cases hn : Nat.beq n 0 <;> rw [hn] at hr
          · simp only [cond_false] at hr
            cases h1 : oneCells (.raw (zerosG te.zero n)) <;> rw [h1] at hr
            · cases hr
            · simp only [cond_true] at hr
              split at hr
              · rename_i h2 hp
                cases hr
                simp only [VRel] at hu
                obtain ⟨a, ha, rfl⟩ := hu
                obtain ⟨z, hzr, hzc⟩ := run_zeroValue (P := P) hT hte w
                obtain ⟨d1, r1, _, m1⟩ := run_under (P := P) hT hti w
                rw [mkTD_slice (m1.trans hd)] at r1
                have hn0 : n ≠ 0 := fun hh => by subst hh; cases hn
                have hvl := zerosG_arr (n := n) _ hzc
                obtain ⟨w', hs, hR', hnx, hk⟩ := putSeg_ok (P := P) hR hp ha h1 (vs := Builtin.zeroCells z.cells n) (by rw [← Array.length_toList, hvl]; rfl) (by
                  intro k y hk
                  simp only [Cs.get] at hk
                  split at hk
                  · rename_i q hq
                    cases hk
                    refine ⟨q, ?_, by simp only [VRel]⟩
                    rw [Nat.zero_add, ← Array.getElem?_toList, hvl]; exact hq
                  · cases hk)
                refine ⟨.tuple #[], w', ρ, ?_, fun _ _ => rfl, Ren.le_refl _, by omega, hR', by simp only [VRel]; exact ⟨_, rfl, .nil⟩, hk⟩
                cases n with
                | zero => exact (hn0 rfl).elim
                | succ n => simp [Builtin.clear_, ht0, hu0, r1, hzr, hs]
              · cases hr
          · cases hr
        · cases hr
      · cases hr
    · cases hr
  · cases hr

/-! ### Iterators -/
theorem run_getI {P : Program} {w : World} {r : Nat} {m : Option Nat} {a c : Nat} {l : Array Nat} (h : w.heap[r]? = some (.mapIter m a l c)) : (getObj r).run P w = .ok (.mapIter m a l c) w := by simp [getObj, Sem.run, h]
theorem run_setI {P : Program} {w : World} {r : Nat} {m : Option Nat} {a c : Nat} {l : Array Nat} (o' : Obj) (h : w.heap[r]? = some (.mapIter m a l c)) : (setObj r o').run P w = .ok () { w with heap := w.heap.setIfInBounds r o' } := by
  simp [setObj, Sem.run, h]
theorem Rel.iterAt {h : Heap} {ρ : Ren} {T : Nat → Prop} {w : World} (hR : Rel h ρ T w) {r : Nat} {m : Option Nat} {since : Nat} {seen : List Nat} {st : Nat} (hi : h.get r = some (.iter m since seen st)) :
    ∃ a mb, ρ r = some a ∧ IRel ρ m mb ∧ w.heap[a.blk]? = some (.mapIter mb since seen.toArray st) ∧ T a.blk ∧ a.base = 0 := by
  obtain ⟨S, h1, h2, h3, h4, h5⟩ := hR
  obtain ⟨a, ha, h0, hS, mb, hm, hb⟩ := h1 r _ hi
  exact ⟨a, mb, ha, hm, hb, (h3 r _ _ hi hS).1, h0⟩
theorem Rel.iterSet {h : Heap} {ρ : Ren} {T : Nat → Prop} {w : World} (hR : Rel h ρ T w) {r : Nat} {m : Option Nat} {mb : Option Nat} {since : Nat} {seen seen' : List Nat} {st st' : Nat} {a : Loc} (hi : h.get r = some (.iter m since seen st)) (ha : ρ r = some a)
    (hb : w.heap[a.blk]? = some (.mapIter mb since seen.toArray st)) (hm : IRel ρ m mb) (hT : T a.blk) (h0 : a.base = 0) : Rel (h.set r (.iter m since seen' st')) ρ T { w with heap := w.heap.setIfInBounds a.blk (.mapIter mb since seen'.toArray st') } ∧
      Keeps T w { w with heap := w.heap.setIfInBounds a.blk (.mapIter mb since seen'.toArray st') } := by
  have hne : ∀ b, b ≠ a.blk → (w.heap.setIfInBounds a.blk (.mapIter mb since seen'.toArray st'))[b]? = w.heap[b]? := fun b hb => by
    rw [Array.getElem?_setIfInBounds]; rw [if_neg (Ne.symm hb)]
  have hlt : a.blk < w.heap.size := (Array.getElem?_eq_some_iff.1 hb).1
  refine ⟨hR.upd (o := .iter m since seen st) hi ha (by simp) hne (fun S hS => hS.2.1) (fun S hS _ => ⟨h0, hS, mb, hm, ?_⟩), by simp, rfl, rfl, rfl, fun b hb => hne b fun h => hb (h ▸ hT)⟩
  show (w.heap.setIfInBounds a.blk _)[a.blk]? = _
  simp [hlt]
theorem MRel.filterB {ρ : Ren} (p : Nat → Bool) : ∀ {es : List (AV × AV × Nat)} {l : List MapEntry}, MRel ρ es l → MRel ρ (es.filter fun x => p x.2.2) (l.filter fun e => p e.born)
  | [], l, hm => by have : l = [] := hm; subst this; exact rfl
  | x :: es, l, ⟨e, l', he, h1, h2, h3, h4⟩ => by
    subst he
    simp only [List.filter_cons, h3]
    cases p x.2.2 with
    | true => exact ⟨e, _, rfl, h1, h2, h3, MRel.filterB p h4⟩
    | false => exact MRel.filterB p h4
theorem MRel.allB {ρ : Ren} (p : Nat → Bool) : ∀ {es : List (AV × AV × Nat)} {l : List MapEntry}, MRel ρ es l → (es.all fun x => p x.2.2) = (l.all fun e => p e.born)
  | [], l, hm => by have : l = [] := hm; subst this; rfl
  | x :: es, l, ⟨e, l', he, h1, h2, h3, h4⟩ => by
    subst he
    simp only [List.all_cons, h3, MRel.allB p h4]
theorem MRel.findB {ρ : Ren} (p : Nat → Bool) : ∀ {es : List (AV × AV × Nat)} {l : List MapEntry} {x : AV × AV × Nat}, MRel ρ es l → es.find? (fun x => p x.2.2) = some x → ∃ e, l.find? (fun e => p e.born) = some e ∧ VRel ρ x.1 e.key ∧ VRel ρ x.2.1 e.val
  | [], l, x, hm, hf => by cases hf
  | y :: es, l, x, ⟨e, l', he, h1, h2, h3, h4⟩, hf => by
    subst he
    simp only [List.find?_cons] at hf ⊢
    rw [h3]
    cases hp : p y.2.2 <;> rw [hp] at hf
    · exact MRel.findB p h4 hf
    · cases hf; exact ⟨e, rfl, h1, h2⟩
theorem MRel.nilB {ρ : Ren} : ∀ {es : List (AV × AV × Nat)} {l : List MapEntry}, MRel ρ es l → es.isEmpty = l.isEmpty
  | [], l, hm => by have : l = [] := hm; subst this; rfl
  | x :: es, l, ⟨e, l', he, _⟩ => by subst he; rfl
theorem rRange_ok {P : Program} {tt : TT} (hT : tt.ok P) {h h' : Heap} {ρ : Ren} {T : Nat → Prop} {w : World} (hR : Rel h ρ T w) {t : TypeId} {x v : AV} {u : Value} (hr : rRange tt t x h = some (v, h')) (hu : VRel ρ x u) : XOk P (Instr.range t u) h ρ T w v h' := by
  have push : ∀ (m : Option Nat) (mb : Option Nat) (since : Nat) (st : Nat), IRel ρ m mb → (Instr.range t u).run P w = .ok (.pointer (some ⟨w.heap.size, 0, none⟩)) (w.alloc (.mapIter mb since #[] st)) → XOk P (Instr.range t u) h ρ T w (.ptr h.next 0) (h.push (.iter m since [] st)) := fun m mb since st hm hrun => by
    have hnew : (w.alloc (.mapIter mb since #[] st)).heap[w.heap.size]? = some (.mapIter mb since #[] st) := by
      show (w.heap.push _)[w.heap.size]? = _
      simp
    obtain ⟨ρ', h1, h2, h3, h4⟩ := hR.push (o := .iter m since [] st) (ob := .mapIter mb since #[] st) 0 ⟨rfl, rfl, mb, hm, hnew⟩
    obtain ⟨S, _, _, _, _, h5⟩ := hR
    exact ⟨_, _, ρ', hrun, h3, h1, by simp, h4, by simp only [VRel]; exact ⟨_, h2, rfl⟩, Keeps.alloc _ h5⟩
  unfold rRange at hr
  split at hr
  · rename_i ti hti
    split at hr
    · rename_i kt et hd
      obtain ⟨d1, r1, _, m1⟩ := run_under (P := P) hT hti w
      rw [mkTD_map (m1.trans hd)] at r1
      split at hr
      · cases hr
        simp only [VRel] at hu
        subst hu
        exact push none none 0 0 rfl (by simp [Instr.range, r1])
      · rename_i i
        split at hr
        · rename_i es clk hi
          cases hr
          simp only [VRel] at hu
          obtain ⟨a, ha, rfl⟩ := hu
          obtain ⟨a', arr, ha', hb, hm, hTa⟩ := hR.mapAt hi
          obtain rfl : a' = a := Option.some.inj (ha'.symm.trans ha)
          exact push (some i) (some a'.blk) clk clk ⟨a', ha, rfl⟩ (by simp [Instr.range, r1, MapKept.run_getObj_map hb])
        · cases hr
      · cases hr
    · cases hr
  · cases hr
theorem rEntry_ok {P : Program} {h h' : Heap} {ρ : Ren} {T : Nat → Prop} {w : World} (hR : Rel h ρ T w) {x v : AV} {u : Value} (hr : rEntry x h = some (v, h')) (hu : VRel ρ x u) : XOk P (Instr.entry u) h ρ T w v h' := by
  unfold rEntry at hr
  split at hr
  · rename_i r
    split at hr
    · rename_i i since seen last hi
      split at hr
      · rename_i es clk st hm hst
        cases hc : decide (clk = last) <;> rw [hc] at hr
        · cases hr
        · simp only [cond_true] at hr
          split at hr
          · rename_i y hf
            cases hr
            simp only [VRel] at hu
            obtain ⟨a, ha, rfl⟩ := hu
            obtain ⟨a', mb, ha', ⟨b, hb, rfl⟩, hit, _, hbase⟩ := hR.iterAt hi
            obtain rfl : a' = a := Option.some.inj (ha'.symm.trans ha)
            obtain ⟨b', arr, hb', hmb, hmr, _⟩ := hR.mapAt hm
            obtain rfl : b' = b := Option.some.inj (hb'.symm.trans hb)
            obtain ⟨e, he, h1, h2⟩ := MRel.findB (fun n => n == st) hmr hf
            have hcl : clk = last := of_decide_eq_true hc
            subst hcl
            refine ⟨.tuple #[e.key, e.val], w, ρ, ?_, fun _ _ => rfl, Ren.le_refl _, Nat.le_refl _, hR, by simp only [VRel]; exact ⟨_, rfl, .cons h1 (.cons h2 .nil)⟩, Keeps.refl _ _⟩
            have hback : seen.toArray.back? = some st := by rw [List.back?_toArray]; exact hst
            have hfind : arr.find? (fun x => x.born == st) = some e := by rw [← Array.find?_toList]; exact he
            simp [Instr.entry, hbase, run_getI hit, hback, MapKept.run_getObj_map hmb, hfind]
          · cases hr
      · cases hr
    · cases hr
  · cases hr
theorem rNext_ok {P : Program} {h h' : Heap} {ρ : Ren} {T : Nat → Prop} {w : World} (hR : Rel h ρ T w) {x v : AV} {u : Value} {ty : TypeId} (hr : rNext x h = some (v, h')) (hu : VRel ρ x u) : XOk P (Instr.next u false ty) h ρ T w v h' := by
  have over : (Instr.next u false ty).run P w = .ok (.tuple #[.bool false]) w → XOk P (Instr.next u false ty) h ρ T w (.tup [.lit (.bool false)]) h := fun hrun =>
    ⟨_, w, ρ, hrun, fun _ _ => rfl, Ren.le_refl _, Nat.le_refl _, hR, by simp only [VRel]; exact ⟨_, rfl, .cons (by simp only [VRel]) .nil⟩, Keeps.refl _ _⟩
  unfold rNext at hr
  split at hr
  · rename_i r
    split at hr
    · rename_i since seen last hi
      cases hr
      simp only [VRel] at hu
      obtain ⟨a, ha, rfl⟩ := hu
      obtain ⟨a', mb, ha', hmb, hit, hTa, hbase⟩ := hR.iterAt hi
      obtain rfl : a' = a := Option.some.inj (ha'.symm.trans ha)
      have hmb : mb = none := hmb
      subst hmb
      exact over (by simp [Instr.next, hbase, run_getI hit])
    · rename_i i since seen last hi
      split at hr
      · rename_i es clk hm
        simp only [VRel] at hu
        obtain ⟨a, ha, rfl⟩ := hu
        obtain ⟨a', mb, ha', hI, hit, hTa, hbase⟩ := hR.iterAt hi
        obtain rfl : a' = a := Option.some.inj (ha'.symm.trans ha)
        have hI0 := hI
        obtain ⟨b, hb, rfl⟩ := hI
        obtain ⟨b', arr, hb', hmb, hmr, _⟩ := hR.mapAt hm
        obtain rfl : b' = b := Option.some.inj (hb'.symm.trans hb)
        have hall := MRel.allB (fun n => decide (n ≥ last)) hmr
        have hnil := MRel.nilB hmr
        have hfl := MRel.filterB (fun n => !seen.contains n) hmr
        cases hg : (!seen.isEmpty && !es.isEmpty && es.all (fun x => decide (x.2.2 ≥ last))) <;> rw [hg] at hr
        · simp only [cond_false] at hr
          rw [hnil, hall] at hg
          have hg' : (!seen.toArray.isEmpty && !arr.isEmpty && arr.all (fun e => decide (e.born ≥ last))) = false := by
            rw [← hg]; cases seen <;> simp [← Array.all_toList, Array.isEmpty]
          have hleft : (arr.filter fun e => !seen.toArray.contains e.born).toList = arr.toList.filter fun e => !seen.contains e.born := by simp
          split at hr
          · rename_i hnone
            cases hr
            rw [hnone] at hfl
            have hl0 : (arr.filter fun e => !seen.toArray.contains e.born) = #[] := by apply Array.toList_inj.1; rw [hleft]; exact hfl
            refine over ?_
            simp only [Instr.next, hbase, Nat.add_zero, Sem.run_bind, run_getI hit, MapKept.run_getObj_map hmb, Result.andThen_ok, hg', Bool.false_eq_true, if_false, hl0]
            simp [Question.forced]
          · rename_i y hone
            rw [hone] at hfl
            obtain ⟨e, l', hl1, h1, h2, h3, h4⟩ := hfl
            have h4 : l' = [] := h4
            subst h4
            cases hs : decide (y.2.2 < since) <;> rw [hs] at hr
            · cases hr
            · cases hr
              have hs := of_decide_eq_true hs
              have hl0 : (arr.filter fun e => !seen.toArray.contains e.born) = #[e] := by apply Array.toList_inj.1; rw [hleft]; exact hl1
              obtain ⟨R2, K2⟩ := hR.iterSet (seen' := seen ++ [y.2.2]) (st' := clk) hi ha hit hI0 hTa hbase
              refine ⟨.tuple #[.bool true, e.key, e.val], _, ρ, ?_, fun _ _ => rfl, Ren.le_refl _, by simp, R2, by simp only [VRel]; exact ⟨_, rfl, .cons (by simp only [VRel]) (.cons h1 (.cons h2 .nil))⟩, K2⟩
              have hs' : e.born < since := by rw [h3]; exact hs
              simp only [Instr.next, hbase, Nat.add_zero, Sem.run_bind, run_getI hit, MapKept.run_getObj_map hmb, Result.andThen_ok, hg', Bool.false_eq_true, if_false, hl0]
              simp [Question.forced, List.filter_cons, h3, hs, Nat.not_le.2 hs, run_setI _ hit]
          · cases hr
        · cases hr
      · cases hr
    · cases hr
  · cases hr
theorem getN_cells {h : Heap} {ρ : Ren} {T : Nat → Prop} {w : World} (hR : Rel h ρ T w) {i : Nat} {a : Loc} (ha : ρ i = some a) : ∀ {n o : Nat} {l : List AV}, getN h i o n = some l → ∃ vs : List Value, LRel ρ l vs ∧ vs.length = n ∧ ∀ j v, vs[j]? = some v → w.cell? ⟨a.blk, a.base + o + j, none⟩ = some v
  | 0, o, l, hg => by
    simp only [getN, Option.some.injEq] at hg; subst hg
    exact ⟨[], .nil, rfl, fun j v hj => by simp at hj⟩
  | n + 1, o, l, hg => by
    simp only [getN] at hg
    split at hg
    · rename_i x hx
      split at hg
      · rename_i l' hl'
        cases hg
        obtain ⟨vs, h1, h2, h3⟩ := getN_cells hR ha hl'
        obtain ⟨b, hb, y, hy, hr⟩ := hR.cell hx
        obtain rfl : b = a := Option.some.inj (hb.symm.trans ha)
        refine ⟨y :: vs, .cons hr h1, by simp [h2], fun j v hj => ?_⟩
        cases j with
        | zero => simp at hj; subst hj; exact hy
        | succ j =>
          have := h3 j v (by simpa using hj)
          rw [show b.base + o + (j + 1) = b.base + (o + 1) + j by omega]
          exact this
      · cases hg
    · cases hg
theorem bytesG_ok {ρ : Ren} : ∀ {l : List AV} {r : List UInt8} {vs : List Value}, bytesG l = some r → LRel ρ l vs → vs = r.map fun b => Value.int .u8 (b.toNat : Int)
  | [], r, vs, h, hl => by
    simp only [bytesG, Option.some.injEq] at h; subst h
    have : vs = [] := by simpa [LRel] using hl
    subst this; rfl
  | a :: l, r, vs, h, hl => by
    simp only [LRel] at hl
    obtain ⟨v, vs', rfl, h1, h2⟩ := hl
    cases a with
    | lit u =>
      cases u with
      | int k z =>
        cases k with
        | u8 =>
          simp only [bytesG] at h
          cases hc : (decide (0 ≤ z) && decide (z < 256)) <;> rw [hc] at h
          · cases h
          · simp only [cond_true] at h
            simp only [Bool.and_eq_true, decide_eq_true_eq] at hc
            split at h
            · rename_i r' hr
              cases h
              simp only [VRel] at h1
              subst h1
              rw [bytesG_ok hr h2]
              simp only [List.map_cons, List.cons.injEq, and_true]
              have h3 : z.toNat < 256 := by omega
              have h4 : (UInt8.ofNat z.toNat).toNat = z.toNat := by simp [UInt8.toNat_ofNat', Nat.mod_eq_of_lt h3]
              rw [h4]
              congr 1
              omega
            · cases h
        | _ => simp [bytesG] at h
      | _ => simp [bytesG] at h
    | _ => simp [bytesG] at h
theorem rText_ok {P : Program} {tt : TT} (hT : tt.ok P) {h h' : Heap} {ρ : Ren} {T : Nat → Prop} {w : World} (hR : Rel h ρ T w) {s d : TypeId} {x v : AV} {u : Value} (hr : rText tt s d x h = some (v, h')) (hu : VRel ρ x u) : XOk P (convert s d u) h ρ T w v h' := by
  unfold rText at hr
  split at hr
  · rename_i ts td hts htd
    split at hr
    · rename_i e hd1 hd2
      split at hr
      · rename_i te hte
        split at hr
        · rename_i hd3
          obtain ⟨i1, d1, z1, _, u1, _, _, _, _, m1⟩ := hT.info hts
          obtain ⟨i2, d2, z2, _, u2, _, _, _, _, m2⟩ := hT.info htd
          obtain ⟨i3, d3, z3, _, u3, _, _, _, _, m3⟩ := hT.info hte
          rw [mkTD_slice (m1.trans hd1)] at u1
          rw [mkTD_string (m2.trans hd2)] at u2
          have e3 : d3 = .int .u8 := by have := m3.trans hd3; cases d3 <;> simp [mkTD] at this; rw [this]
          rw [e3] at u3
          have main : ∀ (i o n cap : Nat) (a : Loc) (l : List AV) (r : List UInt8), ρ i = some a → getN h i o n = some l → bytesG l = some r → XOk P (convert s d (.slice (some ⟨a.blk, a.base + o, none⟩) n cap)) h ρ T w (.lit (.string ⟨r.toArray⟩)) h := fun i o n cap a l r ha hl hb => by
            have hcells := getN_cells hR ha hl
            obtain ⟨vs, hlr, hlen, hcs⟩ := hcells
            have hvs := bytesG_ok hb hlr
            have hrn : r.length = n := by rw [← hlen, hvs]; simp
            refine ⟨.string ⟨r.toArray⟩, w, ρ, ?_, fun _ _ => rfl, Ren.le_refl _, Nat.le_refl _, hR, by simp only [VRel], Keeps.refl _ _⟩
            have := run_convert_bytes_back (P := P) w s d e ⟨a.blk, a.base + o, none⟩ cap r u1 u3 u2 (fun j hj => by
              have := hcs j (.int .u8 (r[j].toNat : Int)) (by rw [hvs, List.getElem?_map, List.getElem?_eq_getElem hj]; rfl)
              unfold Addr.add
              split
              · rename_i hj0; subst hj0; simpa using this
              · exact this)
            rw [hrn] at this
            exact this
          split at hr
          · rename_i i o n sz
            split at hr
            · rename_i l hl
              split at hr
              · rename_i r hb
                cases hr
                simp only [VRel] at hu
                obtain ⟨a, c, ha, rfl, _⟩ := hu
                exact main i o n c a l r ha hl hb
              · cases hr
            · cases hr
          · rename_i i o n c
            split at hr
            · rename_i l hl
              split at hr
              · rename_i r hb
                cases hr
                simp only [VRel] at hu
                obtain ⟨a, ha, rfl⟩ := hu
                exact main i o n c a l r ha hl hb
              · cases hr
            · cases hr
          · cases hr
        · cases hr
      · cases hr
    · cases hr
  · cases hr

/-! ### The run is so -/
theorem rX_ok {P : Program} {tt : TT} (hT : tt.ok P) {h h' : Heap} {ρ : Ren} {T : Nat → Prop} {w : World} (hR : Rel h ρ T w) {o : Oper} {ev : Operand → AV} {e : Operand → Value} (he : ∀ x, VRel ρ (ev x) (e x)) {v : AV} (hr : rX tt o.op ev h = some (v, h')) :
    XR P (execOp e o) h ρ T w (fun v1 h1 => v1 = v ∧ h1 = h') := by
  obtain ⟨dst, op, ty, pos, after, guard⟩ := o
  have wrap : ∀ {s : Sem Value} {Q : AV → Heap → Prop}, XQ P s h ρ T w Q → XR P (do pure (Next.value (← s)) : Sem Next) h ρ T w Q := fun ⟨v, h', ⟨u, w', ρ', h1, h2, h3, h4, h5, h6, h7⟩, hq⟩ => ⟨v, h', u, w', ρ', .inl (run_next h1), h2, h3, h4, h5, h6, h7, hq⟩
  have put : ∀ (t : TypeId) (m k x : Operand) (s : Sem Next), rMapPut tt t (ev m) (ev k) (ev x) h = some (v, h') → (∀ w', (Instr.mapUpdate t (e m) (e k) (e x)).run P w = .ok () w' → s.run P w = .ok .skip w') → XR P s h ρ T w (fun v1 h1 => v1 = v ∧ h1 = h') := fun t m k x s hr hs => by
    obtain ⟨rfl, hq⟩ := rMapPut_ok hr
    obtain ⟨w', h2, h1, h2', h3, h4, h5⟩ := vMapPut_ok (P := P) hT hR hq (he m) (he k) (he x)
    subst h5
    exact ⟨_, _, undef, w', ρ, .inr ⟨hs _ h1, rfl⟩, fun _ _ => rfl, Ren.le_refl _, by omega, h2', by simp only [VRel], h4, rfl, rfl⟩
  cases op <;> simp only [rX] at hr <;> try (cases hr; done)
  case makeMap t r => exact wrap (vMakeMap_ok (o := r.map e) hR (by rw [Option.isSome_map]; exact rMakeMap_ok hr))
  case insert t m k x => exact put t m k x _ hr fun w' h1 => by simp [execOp, h1]
  case mapUpdate t m k x => exact put t m k x _ hr fun w' h1 => by simp [execOp, h1]
  case lookup t m k ok =>
    obtain ⟨rfl, hq⟩ := rLookup_ok hr
    obtain ⟨v2, ⟨u, h1, h2⟩, h3⟩ := vLookup_ok (P := P) hT hR hq (he m) (he k)
    subst h3
    exact ⟨_, _, u, w, ρ, .inl (by simp only [execOp]; exact run_next h1), fun _ _ => rfl, Ren.le_refl _, Nat.le_refl _, hR, h2, Keeps.refl _ _, rfl, rfl⟩
  case range t x =>
    obtain ⟨u, w', ρ', h1, h2⟩ := rRange_ok (P := P) hT hR hr (he x)
    exact wrap ⟨v, h', ⟨u, w', ρ', h1, h2⟩, rfl, rfl⟩
  case next it st =>
    cases st with
    | true => cases hr
    | false => exact wrap ⟨v, h', rNext_ok hR hr (he it), rfl, rfl⟩
  case convert s d x => exact wrap ⟨v, h', rText_ok hT hR hr (he x), rfl, rfl⟩
  case entry it => exact wrap ⟨v, h', rEntry_ok hR hr (he it), rfl, rfl⟩
  case call c =>
    split at hr
    · rename_i hb
      split at hr
      · rename_i t tr x xr ht hx
        have hl : LRel ρ (c.args.toList.map ev) (c.args.map e).toList := by simpa using map_rel he c.args.toList
        rw [hx] at hl
        obtain ⟨u0, hu0, hr0⟩ := hl.get 0 x rfl
        obtain ⟨u, w', ρ', h1, h2, h3, h4, h5, h6, h7⟩ := rClear_ok (P := P) (ty := ty) (ts := c.argTypes) (us := c.args.map e) hT hR hr hr0 (by rw [← Array.getElem?_toList, ht]; rfl) (by simpa using hu0)
        refine ⟨v, h', u, w', ρ', .inl ?_, h2, h3, h4, h5, h6, h7, rfl, rfl⟩
        obtain ⟨cs, hcs⟩ := resolve_builtin (e := e) hb ty P w
        simp only [execOp, Sem.run_bind, hcs, Result.andThen_ok, invoke]
        have : (builtin .clear c.argTypes ty cs (c.args.map e)).run P w = (do pure (Next.value (← Builtin.clear_ c.argTypes ty (c.args.map e))) : Sem Next).run P w := rfl
        rw [this]
        simp [h1]
      · cases hr
    · cases hr

section
variable {α : Type} {P : Program} {tt : TT} {k n : Nat} {ops : Array Oper}
/-- A call, of a function with or without a body. -/
theorem rplan_callE {Q : Fr → Heap → Prop} {fr : Fr} {h : Heap} {i : Nat} {rest : List Stp} {o : Oper} {c : Call} {x : Operand} {g : FuncId} {first cap : List AV} (ho : ops[i]? = some o) (hop : o.op = .call c) (hcx : c.callee = .value x)
    (hw : wantedA ops o fr = some true) (hd : dstOk n o.dst = true) (hx : evA fr x = .fn (.func g) first cap) {args : List AV} (hargs : first ++ c.args.toList.map (evA fr) ++ cap = args)
    {K : AV → Heap → Prop} (hspec : SpE P g args h K) (hn : ∀ v h', K v h' → RPlan P k n ops rest Q (putF fr o.dst v) h') : RPlan P k n ops (.xx i :: rest) Q fr h := by
  rcases hspec with hspec | hspec
  · exact rplan_call ho hop hcx hw hd hx hargs hspec hn
  · intro ρ T w a hst
    have hxv := hst.fr.ev x
    rw [hx] at hxv
    simp only [VRel] at hxv
    obtain ⟨fa, ca, hxe, hfa, hca⟩ := hxv
    have hl : LRel ρ args (fa ++ c.args.map a.eval ++ ca).toList := by
      rw [← hargs]
      simp only [Array.toList_append, Array.toList_map]
      exact (hfa.append (map_rel (fun y => hst.fr.ev y) _)).append hca
    obtain ⟨v, h', u, w', ρ', r1, r2, r3, r4, r5, r6, r7, r8⟩ := hspec ρ T w _ hst.rel hl
    have hrun : RunsTo P (execOp a.eval o) w u w' := by
      obtain ⟨dst, op, ty, pos, after, guard⟩ := o
      simp only at hop
      subst hop
      refine .inl ?_
      simp only [execOp, resolve, hcx, hxe, Sem.run_bind, Deferred.ofValue, Sem.run_pure, Result.andThen_ok, invoke]
      exact r1
    refine wpOp_runs ho (wantedA_ok hst.fr hw) hrun ?_
    have hst' : St k n ρ' T (putF fr o.dst v) h' (a.put o.dst u) w' := ⟨Nat.le_trans hst.le r4, r5, (hst.fr.mono r3).put hd r6⟩
    exact wpPlan_mono (rpost_mono (fun j hj => r2 j (Nat.lt_of_lt_of_le hj hst.le)) r7) rest _ _ (hn v h' r8 ρ' T w' _ hst')
theorem rplan_gg {Q : Fr → Heap → Prop} (hT : tt.ok P) {fr fr' : Fr} {h h' : Heap} {i : Nat} {rest : List Stp} (hs : stepG tt n ops i fr h = some (fr', h')) (hn : RPlan P k n ops rest Q fr' h') : RPlan P k n ops (.xx i :: rest) Q fr h := by
  intro ρ T w a hst
  unfold stepG at hs
  split at hs
  · rename_i o ho
    cases hd : dstOk n o.dst <;> rw [hd] at hs
    · cases hs
    · simp only [cond_true] at hs
      split at hs
      · rename_i hw
        split at hs
        · rename_i v h2 hr
          cases hs
          obtain ⟨v1, h1, u, w', ρ', r1, r2, r3, r4, r5, r6, r7, rfl, rfl⟩ := rX_ok (P := P) hT hst.rel (o := o) (fun x => hst.fr.ev x) hr
          refine wpOp_runs ho (wantedA_ok hst.fr hw) r1 ?_
          have hst' : St k n ρ' T (putF fr o.dst v1) h1 (a.put o.dst u) w' := ⟨Nat.le_trans hst.le r4, r5, (hst.fr.mono r3).put hd r6⟩
          exact wpPlan_mono (rpost_mono (fun j hj => r2 j (Nat.lt_of_lt_of_le hj hst.le)) r7) rest _ _ (hn ρ' T w' _ hst')
        · cases hs
      · cases hs
  · cases hs

def CallOkG (P : Program) (call : RunG α) : Prop := ∀ g args h K a, call g args h K = .ok a → SpE P g args h (fun v h' => K v h' = .ok a)
theorem opsG_ok (hT : tt.ok P) {call : RunG α} (hc : CallOkG P call) {g : Nat} {Q : Fr → Heap → Rs α} {r : α} : ∀ (pl : List Stp) (fr : Fr) (h : Heap), opsG call tt g n ops Q pl fr h = .ok r → RPlan P k n ops pl (fun fr h => Q fr h = .ok r) fr h
  | [], fr, h, hr => rplan_nil hr
  | .nn i :: l, fr, h, hr => by
    simp only [opsG] at hr
    split at hr
    · rename_i f2 h2; exact rplan_nn hT h2 (opsG_ok hT hc l f2 h hr)
    · cases hr
  | .rr l :: m, fr, h, hr => by
    simp only [opsG] at hr
    split at hr
    · rename_i f2 h2; exact rplan_rr hT h2 (opsG_ok hT hc m f2 h hr)
    · cases hr
  | .xx i :: l, fr, h, hr => by
    simp only [opsG] at hr
    split at hr
    · rename_i g' args d hcall
      unfold callOf at hcall
      split at hcall
      · rename_i o ho
        split at hcall
        · rename_i c hop
          split at hcall
          · rename_i x hcx
            split at hcall
            · rename_i g2 first cap hx
              cases hd : dstOk n o.dst <;> rw [hd] at hcall
              · cases hcall
              · simp only [cond_true] at hcall
                split at hcall
                · rename_i hw
                  simp only [Option.some.injEq, Prod.mk.injEq] at hcall
                  obtain ⟨rfl, hargs, rfl⟩ := hcall
                  exact rplan_callE ho hop hcx hw hd hx hargs (hc _ _ _ _ _ hr) fun v h' hv => opsG_ok hT hc l _ _ hv
                · cases hcall
            · cases hcall
          · cases hcall
        · cases hcall
      · cases hcall
    · split at hr
      · rename_i f2 g2 h2; exact rplan_xx hT false h2 (opsG_ok hT hc l f2 g2 hr)
      · split at hr
        · rename_i f2 g2 h2; exact rplan_gg hT h2 (opsG_ok hT hc l f2 g2 hr)
        · cases hr

theorem codeG_ok (hT : tt.ok P) (hm : P.follows .mixedOrders = true) {call : RunG α} (hc : CallOkG P call) {g : Nat} {r : α} : ∀ (N f : Nat), f ≤ N → ∀ (c : Code) (Q : Exit → Fr → Heap → Rs α) (fr : Fr) (h : Heap), codeG call tt g n f c Q fr h = .ok r → AWp P k n c (fun e fr h => Q e fr h = .ok r) fr h := by
  intro N
  induction N with
  | zero => intro f hf c Q fr h hr; have : f = 0 := by omega
            subst this; simp [codeG] at hr
  | succ N ih =>
    intro f hf c Q fr h hr
    cases f with
    | zero => simp [codeG] at hr
    | succ f =>
      have hfN : f ≤ N := by omega
      cases c with
      | skip => exact awp_skip hr
      | ret => exact awp_ret hr
      | exit id => exact awp_exit hr
      | label l => exact awp_label hr
      | scope x => exact awp_scope (ih f hfN x Q fr h hr)
      | seq x y =>
        simp only [codeG] at hr
        refine awp_seq ((ih f hfN x _ fr h hr).mono fun e fr1 h1 hh => ?_)
        cases e with
        | normal => exact ih f hfN y Q fr1 h1 hh
        | _ => exact hh
      | cond c x y =>
        simp only [codeG] at hr
        split at hr
        · rename_i b hb
          refine awp_cond hb (fun ht => ?_) (fun hf => ?_)
          · subst ht; exact ih f hfN x Q fr h hr
          · subst hf; exact ih f hfN y Q fr h hr
        · cases hr
      | block id x =>
        simp only [codeG] at hr
        refine awp_block ((ih f hfN x _ fr h hr).mono fun e fr1 h1 hh => ?_)
        cases e with
        | exit id' =>
          simp only [blockA]
          cases hb : Nat.beq id' id <;> simp only [hb, cond_true, cond_false] at hh
          · have : id' ≠ id := fun he => by subst he; rw [Nat.beq_refl] at hb; cases hb
            rw [if_neg this]; exact hh
          · rw [if_pos (Nat.eq_of_beq_eq_true hb)]; exact hh
        | _ => exact hh
      | loop x =>
        refine awp_loop (fun m fr h => m ≤ f + 1 ∧ codeG call tt g n m (.loop x) Q fr h = .ok r) (m := f + 1) ⟨Nat.le_refl _, hr⟩ ?_
        rintro m fr2 h2 ⟨hm', hr2⟩
        cases m with
        | zero => simp [codeG] at hr2
        | succ m =>
          simp only [codeG] at hr2
          refine (ih m (by omega) x _ fr2 h2 hr2).mono fun e fr3 h3 hh => ?_
          cases e with
          | normal => exact ⟨m, by omega, by omega, hh⟩
          | _ => exact hh
      | region id ops draw =>
        simp only [codeG] at hr
        split at hr
        · rename_i pl hpl
          cases draw with
          | false =>
            simp only [planFor, cond_false, Option.some.injEq] at hpl
            exact awp_region hpl (opsG_ok hT hc pl fr h hr)
          | true =>
            simp only [planFor, cond_true] at hpl
            cases hok : (Region.noSelect ops && planOk ops (planOf ops) (Array.replicate ops.size false) && decide (planLen (planOf ops) ≤ ops.size)) <;> rw [hok] at hpl
            · cases hpl
            · cases hpl
              exact awp_draw hm hok (opsG_ok hT hc _ fr h hr)
        · cases hr
      | _ => simp [codeG] at hr

def XOk' (P : Program) (xt : XTbl) : Prop := ∀ g T, lookX xt g = some T → ∀ args h v h', T args h = some (v, h') → SpE P g args h (fun v1 h1 => v1 = v ∧ h1 = h')
theorem runG_ok (hT : tt.ok P) (hm : P.follows .mixedOrders = true) {xt : XTbl} (hx : XOk' P xt) (fuel : Nat) : ∀ d, CallOkG P (runG (α := α) P xt tt fuel d)
  | 0 => by intro g args h K a hr; simp [runG] at hr
  | d + 1 => by
    intro g args h K a hr
    simp only [runG] at hr
    split at hr
    · rename_i T hl
      split at hr
      · rename_i v h' hv
        rcases hx g T hl args h v h' hv with hs | hs
        · exact .inl (hs.mono (by rintro _ _ ⟨rfl, rfl⟩; exact hr))
        · refine .inr fun ρ T w vs hR hl => ?_
          obtain ⟨v1, h1, u, w', ρ', r1, r2, r3, r4, r5, r6, r7, rfl, rfl⟩ := hs ρ T w vs hR hl
          exact ⟨_, _, u, w', ρ', r1, r2, r3, r4, r5, r6, r7, hr⟩
      · cases hr
    · split at hr
      · rename_i fn hf
        split at hr
        · rename_i c hb
          cases hcnd : (!(fn.name == "runtime.NumGoroutine") && Nat.ble args.length fn.ntmps) <;> rw [hcnd] at hr
          · cases hr
          · simp only [cond_true] at hr
            simp only [Bool.and_eq_true, Bool.not_eq_true'] at hcnd
            refine .inl (spec_of_awp hT hf hcnd.1 hb hcnd.2 ((codeG_ok hT hm (runG_ok hT hm hx fuel d) fuel fuel (Nat.le_refl _) c _ _ h hr).mono fun e fr2 h2 hh => ?_))
            cases hd : isDone e <;> rw [hd] at hh
            · cases hh
            · simp only [cond_true] at hh
              split at hh
              · rename_i v2 hv
                refine ⟨?_, _, hv, hh⟩
                cases e <;> first | exact .inl rfl | exact .inr rfl | cases hd
              · cases hh
        · cases hr
      · cases hr
end
end Go.Proofs.YtpbdlibgbkhlhaaGreat.SE
