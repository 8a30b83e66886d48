import Derived.Test.YtlocaplkfaepnaaGreatVaa
import Derived.Test.YtlocaplkfaepnaaGreatVab
import Derived.Test.YtlocaplkfaepnaaGreatVac
import Derived.Test.YtlocaplkfaepnaaGreatVad
import Derived.Test.YtlocaplkfaepnaaGreatVae
import Derived.Laws.IdiomStrings
import Derived.RangeFuncRecord
import Derived.WalkKit
import Derived.TacticsIn
import Derived.BigFrameIn
import Derived.Shelf.AbstractIn
import Derived.KernelRfl
import Derived.Laws.LoneSync
section
/- Calls of groups that came in: what is asked is so; contracts. -/
namespace Go.Proofs.YtlocaplkfaepnaaGreat
open Go SE
def up (p : PS) (i : Nat) (q : Option Addr) : PS := fun k => if k = i then q else p k
end Go.Proofs.YtlocaplkfaepnaaGreat
end
section
/- Steps of frames that stay as they are: contracts. -/
namespace Go.Proofs.YtlocaplkfaepnaaGreat
open Go SE
noncomputable section
def nilP : AV := .lit (.pointer none)
def stN : Ctr := det (Int × Cll) (fun x => [nilP, i64 x.1, x.2.frN]) 0 (fun _ => []) (fun _ => True) (fun x => x.2.frN) 0 (fun _ => [])
def stW : Ctr := { X := Int × CP, args := fun x => [nilP, i64 x.1, x.2.c.frW 0], k := 1, os := fun x => [roomC x.2.cs], pre := fun x => Hd x.2.ok, outs := [{ Y := PS, post := fun _ _ => True, ret := fun x _ => x.2.c.frW 1, m := 2, os := fun x ps => [roomC x.2.cs, roomC (rowP x.2.c ps)] }] }
/-- With an arena, of another kind. -/
def saN (is : Int → Prop) : Ctr := det (Own × Cll) (fun x => [.ptr 0 0, i64 0, x.2.frN]) 1 (fun x => [.abs x.1]) (fun x => Hd (is x.2.kind)) (fun x => x.2.frN) 1 (fun x => [.abs x.1])
def saW (is : Int → Prop) : Ctr := { X := Own × CP, args := fun x => [.ptr 0 0, i64 0, x.2.c.frW 1], k := 2, os := fun x => [.abs x.1, roomC x.2.cs], pre := fun x => Hd (x.2.ok ∧ is x.2.c.kind), outs := [{ Y := PS, post := fun _ _ => True, ret := fun x _ => x.2.c.frW 2, m := 3, os := fun x ps => [.abs x.1, roomC x.2.cs, roomC (rowP x.2.c ps)] }] }
def isT (k : Int) : Prop := k ≠ 4 ∧ k ≠ 5
def isS (k : Int) : Prop := k ≠ 6
/-- Calls and frames of groups. -/
def grpW : AV → Bool
  | .agg (_ :: _ :: _ :: _ :: .slW _ _ _ _ :: _) => true
  | _ => false
def pickT (B A : WTr) : WTr := fun args h K => bif args.any grpW then B args h K else A args h K
def cloneT : WTr := pickT (ctrT cloneFW) (ctrT cloneFN)
/-- What is not asked for. -/
def stopT : WTr := fun _ _ _ => False
end
end Go.Proofs.YtlocaplkfaepnaaGreat
end
section
/- Closed calls, run: with functions that have no body, maps, scopes. Where a run stops it says where. -/
namespace Go.Proofs.YtlocaplkfaepnaaGreat.SE
open Go

inductive Rs (α : Type) where
  | ok (a : α)
  | no (l : List Nat)
abbrev XFn := List AV → Heap → Option (AV × Heap)
abbrev XTbl := List (FuncId × XFn)
def lookX : XTbl → FuncId → Option XFn
  | [], _ => none
  | (f, T) :: r, g => bif Nat.beq f g then some T else lookX r g
def nbP (a b : Nat) : Option Unit := bif Nat.beq a b then some () else none

/-! ### Maps -/
def rFind (key : Value) : List (AV × AV × Nat) → Nat → Option (Option (Nat × AV))
  | [], _ => some none
  | (.lit u, v, _) :: r, i => match sameK key u with
    | some b => bif b then some (some (i, v)) else rFind key r (i + 1)
    | none => none
  | _ :: _, _ => none
def rMakeMap (tt : TT) (t : TypeId) (hint : Bool) (h : Heap) : Option (AV × Heap) := bif hint then none else
  match tt t with
  | some ti => match ti.desc with
    | .map _ _ => some (.mp h.next, h.push (.map [] 0))
    | _ => none
  | none => none
def rMapPut (tt : TT) (t : TypeId) (m k v : AV) (h : Heap) : Option (AV × Heap) :=
  match mapTy tt t, m, k with
  | some (tk, _), .mp i, .lit key => match h.get i with
    | some (.map es clk) => bif keyFits tk.desc key then (match rFind key es 0 with
        | some none => some (.lit undef, h.set i (.map (es ++ [(.lit key, v, clk)]) (clk + 1)))
        | some (some (j, _)) => some (.lit undef, h.set i (.map (es.modify j fun x => (.lit key, v, x.2.2)) clk))
        | none => none) else none
    | _ => none
  | _, _, _ => none
def rLookup (tt : TT) (t : TypeId) (x k : AV) (ok : Bool) (h : Heap) : Option (AV × Heap) :=
  match mapTy tt t, k with
  | some (tk, te), .lit key => bif keyFits tk.desc key then (match x with
    | .lit (.map none) => some (okV ok (avOf te.zv) false, h)
    | .mp i => match h.get i with
      | some (.map es _) => match rFind key es 0 with
        | some none => some (okV ok (avOf te.zv) false, h)
        | some (some (_, v)) => some (okV ok v true, h)
        | none => none
      | _ => none
    | _ => none) else none
  | _, _ => none
def zerosG (z : List Value) (n : Nat) : List Value := (List.range (n * z.length)).map fun j => z.getD (j % z.length) undef
def rClear (tt : TT) (t : TypeId) (x : AV) (h : Heap) : Option (AV × Heap) :=
  match tt t with
  | some ti => match ti.desc with
    | .slice e => match tt e with
      | some te => match x with
        | .sl i o n _ => bif Nat.beq n 0 then none else bif oneCells (.raw (zerosG te.zero n)) then (match putSeg h i o (.raw (zerosG te.zero n)) with
          | some h' => some (.tup [], h')
          | none => none) else none
        | _ => none
      | none => none
    | _ => none
  | none => none
/-! ### A range over a map of which at most one entry is left -/
def rRange (tt : TT) (t : TypeId) (x : AV) (h : Heap) : Option (AV × Heap) :=
  match tt t with
  | some ti => match ti.desc with
    | .map _ _ => match x with
      | .lit (.map none) => some (.ptr h.next 0, h.push (.iter none 0 [] 0))
      | .mp i => match h.get i with
        | some (.map _ clk) => some (.ptr h.next 0, h.push (.iter (some i) clk [] clk))
        | _ => none
      | _ => none
    | _ => none
  | none => none
def rNext (it : AV) (h : Heap) : Option (AV × Heap) :=
  match it with
  | .ptr r 0 => match h.get r with
    | some (.iter none _ _ _) => some (.tup [.lit (.bool false)], h)
    | some (.iter (some i) since seen last) => match h.get i with
      | some (.map es clk) => bif !seen.isEmpty && !es.isEmpty && es.all (fun x => decide (x.2.2 ≥ last)) then none else
        (match es.filter (fun x => !seen.contains x.2.2) with
        | [] => some (.tup [.lit (.bool false)], h)
        | [x] => bif decide (x.2.2 < since) then some (.tup [.lit (.bool true), x.1, x.2.1], h.set r (.iter (some i) since (seen ++ [x.2.2]) clk)) else none
        | _ => none)
      | _ => none
    | _ => none
  | _ => none
def rEntry (it : AV) (h : Heap) : Option (AV × Heap) :=
  match it with
  | .ptr r 0 => match h.get r with
    | some (.iter (some i) _ seen last) => match h.get i, seen.getLast? with
      | some (.map es clk), some st => bif decide (clk = last) then (match es.find? (fun x => x.2.2 == st) with
        | some x => some (.tup [x.1, x.2.1], h)
        | none => none) else none
      | _, _ => none
    | _ => none
  | _ => none
/-! ### A text of bytes -/
def bytesG : List AV → Option (List UInt8)
  | [] => some []
  | .lit (.int .u8 z) :: l => bif decide (0 ≤ z) && decide (z < 256) then (match bytesG l with
    | some r => some (UInt8.ofNat z.toNat :: r)
    | none => none) else none
  | _ :: _ => none
def rText (tt : TT) (s d : TypeId) (x : AV) (h : Heap) : Option (AV × Heap) :=
  match tt s, tt d with
  | some ts, some td => match ts.desc, td.desc with
    | .slice e, .string => match tt e with
      | some te => match te.desc with
        | .int .u8 => match x with
          | .slU i o n _ => match getN h i o n with
            | some l => match bytesG l with
              | some r => some (.lit (.string ⟨r.toArray⟩), h)
              | none => none
            | none => none
          | .sl i o n _ => match getN h i o n with
            | some l => match bytesG l with
              | some r => some (.lit (.string ⟨r.toArray⟩), h)
              | none => none
            | none => none
          | _ => none
        | _ => none
      | none => none
    | _, _ => none
  | _, _ => none
/-! ### A rest of a slice, behind its last element -/
def rTail (tt : TT) (t : TypeId) (x : AV) (lo hi mx : Option AV) : Option AV :=
  match tt t with
  | some ti => match ti.desc, x with
    | .slice e, .slU i o n _ => match tt e, mx with
      | some _, none => match bnds n n lo hi none with
        | some _ => some .any
        | none => none
      | some _, some z => match bnds n n lo hi (some z) with
        | some (l, h, m) => if l = 0 then some (.sl i o h m) else none
        | none => none
      | _, _ => none
    | _, _ => none
  | none => none
theorem bnd_d (z : AV) (d d' lim : Nat) : bnd (some z) d lim = bnd (some z) d' lim := by
  unfold bnd
  cases z with
  | lit v => cases v <;> rfl
  | _ => rfl
theorem bnds_capM {n c : Nat} {lo hi : Option AV} {z : AV} {r : Nat × Nat × Nat} (hb : bnds n n lo hi (some z) = some r) (hc : n ≤ c) : bnds n c lo hi (some z) = some r := by
  unfold bnds at hb ⊢
  have e : ∀ m, bnd (some z) n n = some m → bnd (some z) c c = some m := fun m h => (bnd_d z c n c).trans (bnd_cap h hc)
  cases hm : bnd (some z) n n with
  | none => rw [hm] at hb; cases hb
  | some m => rw [hm] at hb; rw [e m hm]; exact hb
theorem rTail_ok {P : Program} {tt : TT} (hT : tt.ok P) {ρ : Ren} {t : TypeId} {x r : AV} {u : Value} {lo hi mx : Option AV} {vl vh vm : Option Value} (h : rTail tt t x lo hi mx = some r)
    (hu : VRel ρ x u) (hl : ORel ρ lo vl) (hh : ORel ρ hi vh) (hm : ORel ρ mx vm) : NOk P (Instr.sliceAt t u vl vh vm) ρ r := by
  unfold rTail at h
  split at h
  · rename_i ti hti
    split at h
    · rename_i e i o n sz hd
      split at h
      · rename_i te hte
        split at h
        · rename_i b hb
          obtain ⟨l, hh', m⟩ := b
          cases h; simp only [VRel] at hu; obtain ⟨a, c, ha, rfl, hnc, hlim⟩ := hu
          simp only [ORel] at hm; subst hm
          have hb' : ∀ w, (Instr.sliceBounds true n c vl vh none).run P w = .ok (l, hh', c) w := fun w => bnds_ok (P := P) (b := true) (bnds_cap hb hnc) hl hh (by simp [ORel]) w
          refine ⟨.slice (if c = l then some ⟨a.blk, a.base + o, none⟩ else some ⟨a.blk, a.base + o + l * te.size, none⟩) (hh' - l) (c - l), fun w => ?_, by simp only [VRel]⟩
          obtain ⟨d1, r1, _, m1⟩ := run_under (P := P) hT hti w
          rw [mkTD_slice (m1.trans hd)] at r1
          simp [Instr.sliceAt, Instr.slice, r1, hb', run_sizeOf hT hte, add_zero_spot]
        · cases h
      · rename_i te z hte
        split at h
        · rename_i l hh' m hb
          split at h
          · rename_i hl0
            subst hl0
            cases h; simp only [VRel] at hu; obtain ⟨a, c, ha, rfl, hnc, hlim⟩ := hu
            have hb' : ∀ w, (Instr.sliceBounds true n c vl vh vm).run P w = .ok (0, hh', m) w := fun w => bnds_ok (P := P) (b := true) (bnds_capM hb hnc) hl hh hm w
            refine ⟨.slice (some ⟨a.blk, a.base + o, none⟩) hh' m, fun w => ?_, by simp only [VRel]; exact ⟨a, ha, rfl⟩⟩
            obtain ⟨d1, r1, _, m1⟩ := run_under (P := P) hT hti w
            rw [mkTD_slice (m1.trans hd)] at r1
            simp [Instr.sliceAt, Instr.slice, r1, hb', run_sizeOf hT hte, add_zero_spot]
          · cases h
        · cases h
      · cases h
    · cases h
  · cases h
/-- Operations beside those that stepX knows. -/
def rX (tt : TT) (op : Op) (ev : Operand → AV) (h : Heap) : Option (AV × Heap) :=
  match op with
  | .makeMap t r => rMakeMap tt t r.isSome h
  | .insert t m k x => rMapPut tt t (ev m) (ev k) (ev x) h
  | .mapUpdate t m k x => rMapPut tt t (ev m) (ev k) (ev x) h
  | .lookup t m k ok => rLookup tt t (ev m) (ev k) ok h
  | .range t x => rRange tt t (ev x) h
  | .next it isString => bif isString then none else rNext (ev it) h
  | .entry it => rEntry (ev it) h
  | .convert s d x => rText tt s d (ev x) h
  | .slice t x lo hi mx => match rTail tt t (ev x) (mapO ev lo) (mapO ev hi) (mapO ev mx) with
    | some v => some (v, h)
    | none => none
  | .call c => match c.callee with
    | .builtin .clear => match c.argTypes.toList, c.args.toList.map ev with
      | t :: _, x :: _ => rClear tt t x h
      | _, _ => none
    | _ => none
  | _ => none
def stepG (tt : TT) (n : Nat) (ops : Array Oper) (i : Nat) (fr : Fr) (h : Heap) : Option (Fr × Heap) :=
  match ops[i]? with
  | some o => bif dstOk n o.dst then (match wantedA ops o fr with
    | some true => match rX tt o.op (evA fr) h with
      | some (v, h') => some (putF fr o.dst v, h')
      | none => none
    | _ => none) else none
  | none => none

/-! ### The run -/
section
variable {α : Type}
abbrev RunG (α : Type) := FuncId → List AV → Heap → (AV → Heap → Rs α) → Rs α
def opsG (call : RunG α) (tt : TT) (g n : Nat) (ops : Array Oper) (Q : Fr → Heap → Rs α) : List Stp → Fr → Heap → Rs α
  | [], fr, h => Q fr h
  | .nn i :: r, fr, h => match stepN tt n ops i fr with
    | some fr' => opsG call tt g n ops Q r fr' h
    | none => .no [g, i, 1]
  | .rr l :: r, fr, h => match stillL tt n ops l fr h with
    | some fr' => opsG call tt g n ops Q r fr' h
    | none => .no (g :: 2 :: l)
  | .xx i :: r, fr, h => match callOf n ops i fr with
    | some (g', args, d) => call g' args h fun v h' => opsG call tt g n ops Q r (putF fr d v) h'
    | none => match stepX false tt n ops i fr h with
      | some (fr', h') => opsG call tt g n ops Q r fr' h'
      | none => match stepG tt n ops i fr h with
        | some (fr', h') => opsG call tt g n ops Q r fr' h'
        | none => .no [g, i, 3]
def codeG (call : RunG α) (tt : TT) (g n : Nat) : Nat → Code → (Exit → Fr → Heap → Rs α) → Fr → Heap → Rs α
  | 0, _, _, _, _ => .no [g, 5]
  | _ + 1, .skip, Q, fr, h => Q .normal fr h
  | _ + 1, .ret, Q, fr, h => Q .ret fr h
  | _ + 1, .exit id, Q, fr, h => Q (.exit id) fr h
  | _ + 1, .label _, Q, fr, h => Q .normal fr h
  | f + 1, .scope x, Q, fr, h => codeG call tt g n f x Q fr h
  | f + 1, .seq x y, Q, fr, h => codeG call tt g n f x (fun e fr' h' => match e with
    | .normal => codeG call tt g n f y Q fr' h'
    | e => Q e fr' h') fr h
  | f + 1, .cond c x y, Q, fr, h => match evA fr c with
    | .lit (.bool b) => bif b then codeG call tt g n f x Q fr h else codeG call tt g n f y Q fr h
    | _ => .no [g, 6]
  | f + 1, .block id x, Q, fr, h => codeG call tt g n f x (fun e fr' h' => match e with
    | .exit id' => bif Nat.beq id' id then Q .normal fr' h' else Q (.exit id') fr' h'
    | e => Q e fr' h') fr h
  | f + 1, .loop x, Q, fr, h => codeG call tt g n f x (fun e fr' h' => match e with
    | .normal => codeG call tt g n f (.loop x) Q fr' h'
    | e => Q e fr' h') fr h
  | _ + 1, .region id ops draw, Q, fr, h => match planFor ops draw with
    | some pl => opsG call tt (1000 * g + id) n ops (Q .normal) pl fr h
    | none => .no [g, id, 7]
  | _ + 1, _, _, _, _ => .no [g, 8]
def runG (P : Program) (xt : XTbl) (tt : TT) (fuel : Nat) : Nat → RunG α
  | 0, g, _, _, _ => .no [g, 9]
  | d + 1, g, args, h, K => match lookX xt g with
    | some T => match T args h with
      | some (v, h') => K v h'
      | none => .no [g, 10]
    | none => match P.funcs[g]? with
      | some fn => match fn.body with
        | some c => bif !(fn.name == "runtime.NumGoroutine") && Nat.ble args.length fn.ntmps then codeG (runG P xt tt fuel d) tt g fn.ntmps fuel c (fun e fr' h' => bif isDone e then (match retA tt fn fr' h' with
            | some v => K v h'
            | none => .no [g, 11]) else .no [g, 12]) (entryF args) h else .no [g, 13]
        | none => .no [g, 14]
      | none => .no [g, 15]
end

/-! ### Functions without a body -/
def atG (h : Heap) (a : AV) (k : IntKind) : Option (Nat × Nat × Int) := match a with
  | .ptr i o => match cellAt h i o with
    | some (.lit (.int k' x)) => bif decide (k' = k) then some (i, o, x) else none
    | _ => none
  | _ => none
def putG (h : Heap) (i o : Nat) (k : IntKind) (y : Int) : Option Heap := setCell h i o (.lit (.int k y))
def loadG (k : IntKind) : XFn := fun args h => match args with
  | [a] => match atG h a k with
    | some (_, _, x) => some (.lit (.int k x), h)
    | none => none
  | _ => none
def storeG (k : IntKind) : XFn := fun args h => match args with
  | [a, .lit (.int k' y)] => bif decide (k' = k) then (match atG h a k with
    | some (i, o, _) => match putG h i o k y with
      | some h' => some (.tup [], h')
      | none => none
    | none => none) else none
  | _ => none
def sumG (k : IntKind) (z : Int) : Option Int := match k with
  | .i64 => if -9223372036854775808 ≤ z ∧ z ≤ 9223372036854775807 then some z else none
  | k => some (k.wrap z)
def addG (k : IntKind) : XFn := fun args h => match args with
  | [a, .lit (.int k' y)] => bif decide (k' = k) then (match atG h a k with
    | some (i, o, x) => match sumG k (x + y) with
      | some z => match putG h i o k z with
        | some h' => some (.lit (.int k z), h')
        | none => none
      | none => none
    | none => none) else none
  | _ => none
def casG (k : IntKind) : XFn := fun args h => match args with
  | [a, .lit (.int k' x0), .lit (.int k2 y)] => bif decide (k' = k) && decide (k2 = k) then (match atG h a k with
    | some (i, o, x) => match putG h i o k y with
      | some h' => bif decide (x = x0) then some (.lit (.bool true), h') else some (.lit (.bool false), h)
      | none => none
    | none => none) else none
  | _ => none
def swapG (k : IntKind) : XFn := fun args h => match args with
  | [a, .lit (.int k' y)] => bif decide (k' = k) then (match atG h a k with
    | some (i, o, x) => match putG h i o k y with
      | some h' => some (.lit (.int k x), h')
      | none => none
    | none => none) else none
  | _ => none
/-! ### Proofs -/
theorem rFind_ok {key : Value} : ∀ {es : List (AV × AV × Nat)} {i : Nat} {r : Option (Nat × AV)}, rFind key es i = some r → vFind key es i (fun x => x = r)
  | [], i, r, h => by simp only [rFind, Option.some.injEq] at h; simp only [vFind]; exact h
  | (a, v, c) :: es, i, r, h => by
    cases a with
    | lit u =>
      simp only [rFind] at h
      simp only [vFind]
      split at h
      · rename_i b hb
        simp only [hb]
        cases b with
        | true => simp only [cond_true, Option.some.injEq] at h; simp only [cP]; exact h
        | false => simp only [cond_false] at h; simp only [cP]; exact rFind_ok h
      · cases h
    | _ => simp [rFind] at h
theorem vFind_mono {key : Value} {Q Q' : Option (Nat × AV) → Prop} : ∀ {es : List (AV × AV × Nat)} {i : Nat}, vFind key es i Q → (∀ r, Q r → Q' r) → vFind key es i Q'
  | [], i, h, hq => hq _ h
  | (a, v, c) :: es, i, h, hq => by
    cases a with
    | lit u =>
      simp only [vFind] at h ⊢
      split at h
      · rename_i b hb
        cases b with
        | true => exact hq _ h
        | false => exact vFind_mono (es := es) h hq
      · exact h.elim
    | _ => exact h.elim
theorem rMakeMap_ok {tt : TT} {t : TypeId} {hint : Bool} {h h' : Heap} {v : AV} (hr : rMakeMap tt t hint h = some (v, h')) : vMakeMap tt t hint h (fun v1 h1 => v1 = v ∧ h1 = h') := by
  unfold rMakeMap at hr
  unfold vMakeMap
  cases hint with
  | true => simp at hr
  | false =>
    simp only [cond_false] at hr ⊢
    split at hr
    · rename_i ti hti
      rw [hti]; simp only
      split at hr
      · rename_i k e hd
        rw [hd]; simp only
        simp only [Option.some.injEq, Prod.mk.injEq] at hr
        exact ⟨hr.1, hr.2⟩
      · cases hr
    · cases hr
theorem rMapPut_ok {tt : TT} {t : TypeId} {m k x : AV} {h h' : Heap} {v : AV} (hr : rMapPut tt t m k x h = some (v, h')) : v = .lit undef ∧ vMapPut tt t m k x h (fun h1 => h1 = h') := by
  unfold rMapPut at hr
  unfold vMapPut
  split at hr
  · rename_i tk te i key hty
    rw [hty]; simp only
    split at hr
    · rename_i es clk hi
      simp only [hi]
      cases hk : keyFits tk.desc key <;> rw [hk] at hr
      · cases hr
      · simp only [cond_true] at hr ⊢
        split at hr
        · rename_i hf
          cases hr
          refine ⟨rfl, ?_⟩
          have := rFind_ok hf
          rw [show (fun x => x = none) = (fun (x : Option (Nat × AV)) => x = none) from rfl] at this
          exact vFind_mono this fun r hr => by subst hr; rfl
        · rename_i j y hf
          cases hr
          exact ⟨rfl, vFind_mono (rFind_ok hf) fun r hr => by subst hr; rfl⟩
        · cases hr
    · cases hr
  · cases hr
theorem rLookup_ok {tt : TT} {t : TypeId} {x k : AV} {ok : Bool} {h h' : Heap} {v : AV} (hr : rLookup tt t x k ok h = some (v, h')) : h' = h ∧ vLookup tt t x k ok h (fun r => r = v) := by
  unfold rLookup at hr
  unfold vLookup
  split at hr
  · rename_i tk te key hty
    rw [hty]; simp only
    cases hk : keyFits tk.desc key <;> rw [hk] at hr
    · cases hr
    · simp only [cond_true] at hr ⊢
      split at hr
      · cases hr; exact ⟨rfl, rfl⟩
      · rename_i i
        simp only
        split at hr
        · rename_i es clk hi
          simp only [hi]
          split at hr
          · rename_i hf
            cases hr
            exact ⟨rfl, vFind_mono (rFind_ok hf) fun r hr => by subst hr; rfl⟩
          · rename_i j y hf
            cases hr
            exact ⟨rfl, vFind_mono (rFind_ok hf) fun r hr => by subst hr; rfl⟩
          · cases hr
        · cases hr
      · cases hr
  · cases hr

theorem atG_ok {h : Heap} {a : AV} {k : IntKind} {i o : Nat} {x : Int} (hg : atG h a k = some (i, o, x)) {Q : Nat → Nat → Int → Prop} (hq : Q i o x) : atI h a k Q := by
  unfold atG at hg
  unfold atI
  split at hg
  · rename_i i' o'
    simp only
    split at hg
    · rename_i k' x' hc
      simp only [hc]
      cases hk : decide (k' = k) <;> rw [hk] at hg
      · cases hg
      · simp only [cond_true] at hg ⊢
        cases hg; exact hq
    · cases hg
  · cases hg
theorem putG_ok {h h' : Heap} {i o : Nat} {k : IntKind} {y : Int} (hg : putG h i o k y = some h') {Q : Heap → Prop} (hq : Q h') : putI h i o k y Q := by
  unfold putG at hg
  unfold putI
  rw [hg]; exact hq
theorem sumG_ok {k : IntKind} {z z' : Int} (hg : sumG k z = some z') {Q : AV → Prop} (hq : Q (.lit (.int k z'))) : arith k z Q := by
  unfold sumG at hg
  unfold arith
  split at hg
  · split at hg
    · rename_i hI
      cases hg
      exact ⟨hI, hq⟩
    · cases hg
  · cases hg
    split
    · rename_i hne; exact (hne rfl).elim
    · exact hq
section
variable {k : IntKind} {args : List AV} {h h' : Heap} {v : AV} {K : AV → Heap → Prop}
theorem loadG_ok (hg : loadG k args h = some (v, h')) (hq : K v h') : loadX k args h K := by
  unfold loadG at hg
  unfold loadX
  split at hg
  · simp only
    split at hg
    · rename_i ha
      cases hg
      exact atG_ok ha hq
    · cases hg
  · cases hg
theorem storeG_ok (hg : storeG k args h = some (v, h')) (hq : K v h') : storeX k args h K := by
  unfold storeG at hg
  unfold storeX
  split at hg
  · rename_i a k' y
    simp only
    cases hk : decide (k' = k) <;> rw [hk] at hg
    · cases hg
    · simp only [cond_true] at hg ⊢
      split at hg
      · rename_i i o x ha
        split at hg
        · rename_i h2 hp
          cases hg
          exact atG_ok ha (putG_ok hp hq)
        · cases hg
      · cases hg
  · cases hg
theorem addG_ok (hg : addG k args h = some (v, h')) (hq : K v h') : addX k args h K := by
  unfold addG at hg
  unfold addX
  split at hg
  · rename_i a k' y
    simp only
    cases hk : decide (k' = k) <;> rw [hk] at hg
    · cases hg
    · simp only [cond_true] at hg ⊢
      split at hg
      · rename_i i o x ha
        split at hg
        · rename_i z hz
          split at hg
          · rename_i h2 hp
            cases hg
            refine atG_ok ha (sumG_ok hz ?_)
            simp only [decide_true, cond_true]
            exact putG_ok hp hq
          · cases hg
        · cases hg
      · cases hg
  · cases hg
theorem casG_ok (hg : casG k args h = some (v, h')) (hq : K v h') : casX k args h K := by
  unfold casG at hg
  unfold casX
  split at hg
  · rename_i a k' x0 k2 y
    simp only
    cases hk : (decide (k' = k) && decide (k2 = k)) <;> rw [hk] at hg
    · cases hg
    · simp only [cond_true] at hg ⊢
      split at hg
      · rename_i i o x ha
        split at hg
        · rename_i h2 hp
          refine atG_ok ha ?_
          cases hx : decide (x = x0) <;> rw [hx] at hg
          · simp only [cond_false] at hg; cases hg; simp only [cP]; exact putG_ok hp hq
          · simp only [cond_true] at hg; cases hg; simp only [cP]; exact putG_ok hp hq
        · cases hg
      · cases hg
  · cases hg
theorem swapG_ok (hg : swapG k args h = some (v, h')) (hq : K v h') : swapX k args h K := by
  unfold swapG at hg
  unfold swapX
  split at hg
  · rename_i a k' y
    simp only
    cases hk : decide (k' = k) <;> rw [hk] at hg
    · cases hg
    · simp only [cond_true] at hg ⊢
      split at hg
      · rename_i i o x ha
        split at hg
        · rename_i h2 hp
          cases hg
          exact atG_ok ha (putG_ok hp hq)
        · cases hg
      · cases hg
  · cases hg
end

/-! ### clear -/
theorem zerosG_arr {z : Array Value} {n : Nat} (zl : List Value) (hz : z.toList = zl) : (Builtin.zeroCells z n).toList = zerosG zl n := by
  subst hz
  have hsz : z.toList.length = z.size := by simp
  simp only [Builtin.zeroCells, zerosG, Array.toList_map, Array.toList_range, hsz]
  apply List.map_congr_left
  intro j hj
  have hj := List.mem_range.1 hj
  have hpos : 0 < z.size := by
    rcases Nat.eq_zero_or_pos z.size with h0 | h0
    · rw [h0] at hj; simp at hj
    · exact h0
  have hlt : j % z.size < z.size := Nat.mod_lt _ hpos
  simp [hlt]
theorem rClear_ok {P : Program} {tt : TT} (hT : tt.ok P) {h h' : Heap} {ρ : Ren} {T : Nat → Prop} {w : World} (hR : Rel h ρ T w) {t ty : TypeId} {x v : AV} {u : Value} {ts : Array TypeId} {us : Array Value}
    (hr : rClear tt t x h = some (v, h')) (hu : VRel ρ x u) (ht0 : ts[0]? = some t) (hu0 : us[0]? = some u) : XOk P (Builtin.clear_ ts ty us) h ρ T w v h' := by
  unfold rClear at hr
  split at hr
  · rename_i ti hti
    split at hr
    · rename_i e hd
      split at hr
      · rename_i te hte
        split at hr
        · rename_i i o n c
          cases hn : Nat.beq n 0 <;> rw [hn] at hr
          · simp only [cond_false] at hr
            cases h1 : oneCells (.raw (zerosG te.zero n)) <;> rw [h1] at hr
            · cases hr
            · simp only [cond_true] at hr
              split at hr
              · rename_i h2 hp
                cases hr
                simp only [VRel] at hu
                obtain ⟨a, ha, rfl⟩ := hu
                obtain ⟨z, hzr, hzc⟩ := run_zeroValue (P := P) hT hte w
                obtain ⟨d1, r1, _, m1⟩ := run_under (P := P) hT hti w
                rw [mkTD_slice (m1.trans hd)] at r1
                have hn0 : n ≠ 0 := fun hh => by subst hh; cases hn
                have hvl := zerosG_arr (n := n) _ hzc
                obtain ⟨w', hs, hR', hnx, hk⟩ := putSeg_ok (P := P) hR hp ha h1 (vs := Builtin.zeroCells z.cells n) (by rw [← Array.length_toList, hvl]; rfl) (by
                  intro k y hk
                  simp only [Cs.get] at hk
                  split at hk
                  · rename_i q hq
                    cases hk
                    refine ⟨q, ?_, by simp only [VRel]⟩
                    rw [Nat.zero_add, ← Array.getElem?_toList, hvl]; exact hq
                  · cases hk)
                refine ⟨.tuple #[], w', ρ, ?_, fun _ _ => rfl, Ren.le_refl _, by omega, hR', by simp only [VRel]; exact ⟨_, rfl, .nil⟩, hk⟩
                cases n with
                | zero => exact (hn0 rfl).elim
                | succ n => simp [Builtin.clear_, ht0, hu0, r1, hzr, hs]
              · cases hr
          · cases hr
        · cases hr
      · cases hr
    · cases hr
  · cases hr

/-! ### Iterators -/
theorem run_getI {P : Program} {w : World} {r : Nat} {m : Option Nat} {a c : Nat} {l : Array Nat} (h : w.heap[r]? = some (.mapIter m a l c)) : (getObj r).run P w = .ok (.mapIter m a l c) w := by simp [getObj, Sem.run, h]
theorem run_setI {P : Program} {w : World} {r : Nat} {m : Option Nat} {a c : Nat} {l : Array Nat} (o' : Obj) (h : w.heap[r]? = some (.mapIter m a l c)) : (setObj r o').run P w = .ok () { w with heap := w.heap.setIfInBounds r o' } := by
  simp [setObj, Sem.run, h]
theorem Rel.iterAt {h : Heap} {ρ : Ren} {T : Nat → Prop} {w : World} (hR : Rel h ρ T w) {r : Nat} {m : Option Nat} {since : Nat} {seen : List Nat} {st : Nat} (hi : h.get r = some (.iter m since seen st)) :
    ∃ a mb, ρ r = some a ∧ IRel ρ m mb ∧ w.heap[a.blk]? = some (.mapIter mb since seen.toArray st) ∧ T a.blk ∧ a.base = 0 := by
  obtain ⟨S, h1, h2, h3, h4, h5⟩ := hR
  obtain ⟨a, ha, h0, hS, mb, hm, hb⟩ := h1 r _ hi
  exact ⟨a, mb, ha, hm, hb, (h3 r _ _ hi hS).1, h0⟩
theorem Rel.iterSet {h : Heap} {ρ : Ren} {T : Nat → Prop} {w : World} (hR : Rel h ρ T w) {r : Nat} {m : Option Nat} {mb : Option Nat} {since : Nat} {seen seen' : List Nat} {st st' : Nat} {a : Loc} (hi : h.get r = some (.iter m since seen st)) (ha : ρ r = some a)
    (hb : w.heap[a.blk]? = some (.mapIter mb since seen.toArray st)) (hm : IRel ρ m mb) (hT : T a.blk) (h0 : a.base = 0) : Rel (h.set r (.iter m since seen' st')) ρ T { w with heap := w.heap.setIfInBounds a.blk (.mapIter mb since seen'.toArray st') } ∧
      Keeps T w { w with heap := w.heap.setIfInBounds a.blk (.mapIter mb since seen'.toArray st') } := by
  have hne : ∀ b, b ≠ a.blk → (w.heap.setIfInBounds a.blk (.mapIter mb since seen'.toArray st'))[b]? = w.heap[b]? := fun b hb => by
    rw [Array.getElem?_setIfInBounds]; rw [if_neg (Ne.symm hb)]
  have hlt : a.blk < w.heap.size := (Array.getElem?_eq_some_iff.1 hb).1
  refine ⟨hR.upd (o := .iter m since seen st) hi ha (by simp) hne (fun S hS => hS.2.1) (fun S hS _ => ⟨h0, hS, mb, hm, ?_⟩), by simp, rfl, rfl, rfl, fun b hb => hne b fun h => hb (h ▸ hT)⟩
  show (w.heap.setIfInBounds a.blk _)[a.blk]? = _
  simp [hlt]
theorem MRel.filterB {ρ : Ren} (p : Nat → Bool) : ∀ {es : List (AV × AV × Nat)} {l : List MapEntry}, MRel ρ es l → MRel ρ (es.filter fun x => p x.2.2) (l.filter fun e => p e.born)
  | [], l, hm => by have : l = [] := hm; subst this; exact rfl
  | x :: es, l, ⟨e, l', he, h1, h2, h3, h4⟩ => by
    subst he
    simp only [List.filter_cons, h3]
    cases p x.2.2 with
    | true => exact ⟨e, _, rfl, h1, h2, h3, MRel.filterB p h4⟩
    | false => exact MRel.filterB p h4
theorem MRel.allB {ρ : Ren} (p : Nat → Bool) : ∀ {es : List (AV × AV × Nat)} {l : List MapEntry}, MRel ρ es l → (es.all fun x => p x.2.2) = (l.all fun e => p e.born)
  | [], l, hm => by have : l = [] := hm; subst this; rfl
  | x :: es, l, ⟨e, l', he, h1, h2, h3, h4⟩ => by
    subst he
    simp only [List.all_cons, h3, MRel.allB p h4]
theorem MRel.findB {ρ : Ren} (p : Nat → Bool) : ∀ {es : List (AV × AV × Nat)} {l : List MapEntry} {x : AV × AV × Nat}, MRel ρ es l → es.find? (fun x => p x.2.2) = some x → ∃ e, l.find? (fun e => p e.born) = some e ∧ VRel ρ x.1 e.key ∧ VRel ρ x.2.1 e.val
  | [], l, x, hm, hf => by cases hf
  | y :: es, l, x, ⟨e, l', he, h1, h2, h3, h4⟩, hf => by
    subst he
    simp only [List.find?_cons] at hf ⊢
    rw [h3]
    cases hp : p y.2.2 <;> rw [hp] at hf
    · exact MRel.findB p h4 hf
    · cases hf; exact ⟨e, rfl, h1, h2⟩
theorem MRel.nilB {ρ : Ren} : ∀ {es : List (AV × AV × Nat)} {l : List MapEntry}, MRel ρ es l → es.isEmpty = l.isEmpty
  | [], l, hm => by have : l = [] := hm; subst this; rfl
  | x :: es, l, ⟨e, l', he, _⟩ => by subst he; rfl
theorem rRange_ok {P : Program} {tt : TT} (hT : tt.ok P) {h h' : Heap} {ρ : Ren} {T : Nat → Prop} {w : World} (hR : Rel h ρ T w) {t : TypeId} {x v : AV} {u : Value} (hr : rRange tt t x h = some (v, h')) (hu : VRel ρ x u) : XOk P (Instr.range t u) h ρ T w v h' := by
  have push : ∀ (m : Option Nat) (mb : Option Nat) (since : Nat) (st : Nat), IRel ρ m mb → (Instr.range t u).run P w = .ok (.pointer (some ⟨w.heap.size, 0, none⟩)) (w.alloc (.mapIter mb since #[] st)) → XOk P (Instr.range t u) h ρ T w (.ptr h.next 0) (h.push (.iter m since [] st)) := fun m mb since st hm hrun => by
    have hnew : (w.alloc (.mapIter mb since #[] st)).heap[w.heap.size]? = some (.mapIter mb since #[] st) := by
      show (w.heap.push _)[w.heap.size]? = _
      simp
    obtain ⟨ρ', h1, h2, h3, h4⟩ := hR.push (o := .iter m since [] st) (ob := .mapIter mb since #[] st) 0 ⟨rfl, rfl, mb, hm, hnew⟩
    obtain ⟨S, _, _, _, _, h5⟩ := hR
    exact ⟨_, _, ρ', hrun, h3, h1, by simp, h4, by simp only [VRel]; exact ⟨_, h2, rfl⟩, Keeps.alloc _ h5⟩
  unfold rRange at hr
  split at hr
  · rename_i ti hti
    split at hr
    · rename_i kt et hd
      obtain ⟨d1, r1, _, m1⟩ := run_under (P := P) hT hti w
      rw [mkTD_map (m1.trans hd)] at r1
      split at hr
      · cases hr
        simp only [VRel] at hu
        subst hu
        exact push none none 0 0 rfl (by simp [Instr.range, r1])
      · rename_i i
        split at hr
        · rename_i es clk hi
          cases hr
          simp only [VRel] at hu
          obtain ⟨a, ha, rfl⟩ := hu
          obtain ⟨a', arr, ha', hb, hm, hTa⟩ := hR.mapAt hi
          obtain rfl : a' = a := Option.some.inj (ha'.symm.trans ha)
          exact push (some i) (some a'.blk) clk clk ⟨a', ha, rfl⟩ (by simp [Instr.range, r1, MapKept.run_getObj_map hb])
        · cases hr
      · cases hr
    · cases hr
  · cases hr
theorem rEntry_ok {P : Program} {h h' : Heap} {ρ : Ren} {T : Nat → Prop} {w : World} (hR : Rel h ρ T w) {x v : AV} {u : Value} (hr : rEntry x h = some (v, h')) (hu : VRel ρ x u) : XOk P (Instr.entry u) h ρ T w v h' := by
  unfold rEntry at hr
  split at hr
  · rename_i r
    split at hr
    · rename_i i since seen last hi
      split at hr
      · rename_i es clk st hm hst
        cases hc : decide (clk = last) <;> rw [hc] at hr
        · cases hr
        · simp only [cond_true] at hr
          split at hr
          · rename_i y hf
            cases hr
            simp only [VRel] at hu
            obtain ⟨a, ha, rfl⟩ := hu
            obtain ⟨a', mb, ha', ⟨b, hb, rfl⟩, hit, _, hbase⟩ := hR.iterAt hi
            obtain rfl : a' = a := Option.some.inj (ha'.symm.trans ha)
            obtain ⟨b', arr, hb', hmb, hmr, _⟩ := hR.mapAt hm
            obtain rfl : b' = b := Option.some.inj (hb'.symm.trans hb)
            obtain ⟨e, he, h1, h2⟩ := MRel.findB (fun n => n == st) hmr hf
            have hcl : clk = last := of_decide_eq_true hc
            subst hcl
            refine ⟨.tuple #[e.key, e.val], w, ρ, ?_, fun _ _ => rfl, Ren.le_refl _, Nat.le_refl _, hR, by simp only [VRel]; exact ⟨_, rfl, .cons h1 (.cons h2 .nil)⟩, Keeps.refl _ _⟩
            have hback : seen.toArray.back? = some st := by rw [List.back?_toArray]; exact hst
            have hfind : arr.find? (fun x => x.born == st) = some e := by rw [← Array.find?_toList]; exact he
            simp [Instr.entry, hbase, run_getI hit, hback, MapKept.run_getObj_map hmb, hfind]
          · cases hr
      · cases hr
    · cases hr
  · cases hr
theorem rNext_ok {P : Program} {h h' : Heap} {ρ : Ren} {T : Nat → Prop} {w : World} (hR : Rel h ρ T w) {x v : AV} {u : Value} {ty : TypeId} (hr : rNext x h = some (v, h')) (hu : VRel ρ x u) : XOk P (Instr.next u false ty) h ρ T w v h' := by
  have over : (Instr.next u false ty).run P w = .ok (.tuple #[.bool false]) w → XOk P (Instr.next u false ty) h ρ T w (.tup [.lit (.bool false)]) h := fun hrun =>
    ⟨_, w, ρ, hrun, fun _ _ => rfl, Ren.le_refl _, Nat.le_refl _, hR, by simp only [VRel]; exact ⟨_, rfl, .cons (by simp only [VRel]) .nil⟩, Keeps.refl _ _⟩
  unfold rNext at hr
  split at hr
  · rename_i r
    split at hr
    · rename_i since seen last hi
      cases hr
      simp only [VRel] at hu
      obtain ⟨a, ha, rfl⟩ := hu
      obtain ⟨a', mb, ha', hmb, hit, hTa, hbase⟩ := hR.iterAt hi
      obtain rfl : a' = a := Option.some.inj (ha'.symm.trans ha)
      have hmb : mb = none := hmb
      subst hmb
      exact over (by simp [Instr.next, hbase, run_getI hit])
    · rename_i i since seen last hi
      split at hr
      · rename_i es clk hm
        simp only [VRel] at hu
        obtain ⟨a, ha, rfl⟩ := hu
        obtain ⟨a', mb, ha', hI, hit, hTa, hbase⟩ := hR.iterAt hi
        obtain rfl : a' = a := Option.some.inj (ha'.symm.trans ha)
        have hI0 := hI
        obtain ⟨b, hb, rfl⟩ := hI
        obtain ⟨b', arr, hb', hmb, hmr, _⟩ := hR.mapAt hm
        obtain rfl : b' = b := Option.some.inj (hb'.symm.trans hb)
        have hall := MRel.allB (fun n => decide (n ≥ last)) hmr
        have hnil := MRel.nilB hmr
        have hfl := MRel.filterB (fun n => !seen.contains n) hmr
        cases hg : (!seen.isEmpty && !es.isEmpty && es.all (fun x => decide (x.2.2 ≥ last))) <;> rw [hg] at hr
        · simp only [cond_false] at hr
          rw [hnil, hall] at hg
          have hg' : (!seen.toArray.isEmpty && !arr.isEmpty && arr.all (fun e => decide (e.born ≥ last))) = false := by
            rw [← hg]; cases seen <;> simp [← Array.all_toList, Array.isEmpty]
          have hleft : (arr.filter fun e => !seen.toArray.contains e.born).toList = arr.toList.filter fun e => !seen.contains e.born := by simp
          split at hr
          · rename_i hnone
            cases hr
            rw [hnone] at hfl
            have hl0 : (arr.filter fun e => !seen.toArray.contains e.born) = #[] := by apply Array.toList_inj.1; rw [hleft]; exact hfl
            refine over ?_
            simp only [Instr.next, hbase, Nat.add_zero, Sem.run_bind, run_getI hit, MapKept.run_getObj_map hmb, Result.andThen_ok, hg', Bool.false_eq_true, if_false, hl0]
            simp [Question.forced]
          · rename_i y hone
            rw [hone] at hfl
            obtain ⟨e, l', hl1, h1, h2, h3, h4⟩ := hfl
            have h4 : l' = [] := h4
            subst h4
            cases hs : decide (y.2.2 < since) <;> rw [hs] at hr
            · cases hr
            · cases hr
              have hs := of_decide_eq_true hs
              have hl0 : (arr.filter fun e => !seen.toArray.contains e.born) = #[e] := by apply Array.toList_inj.1; rw [hleft]; exact hl1
              obtain ⟨R2, K2⟩ := hR.iterSet (seen' := seen ++ [y.2.2]) (st' := clk) hi ha hit hI0 hTa hbase
              refine ⟨.tuple #[.bool true, e.key, e.val], _, ρ, ?_, fun _ _ => rfl, Ren.le_refl _, by simp, R2, by simp only [VRel]; exact ⟨_, rfl, .cons (by simp only [VRel]) (.cons h1 (.cons h2 .nil))⟩, K2⟩
              have hs' : e.born < since := by rw [h3]; exact hs
              simp only [Instr.next, hbase, Nat.add_zero, Sem.run_bind, run_getI hit, MapKept.run_getObj_map hmb, Result.andThen_ok, hg', Bool.false_eq_true, if_false, hl0]
              simp [Question.forced, List.filter_cons, h3, hs, Nat.not_le.2 hs, run_setI _ hit]
          · cases hr
        · cases hr
      · cases hr
    · cases hr
  · cases hr
theorem getN_cells {h : Heap} {ρ : Ren} {T : Nat → Prop} {w : World} (hR : Rel h ρ T w) {i : Nat} {a : Loc} (ha : ρ i = some a) : ∀ {n o : Nat} {l : List AV}, getN h i o n = some l → ∃ vs : List Value, LRel ρ l vs ∧ vs.length = n ∧ ∀ j v, vs[j]? = some v → w.cell? ⟨a.blk, a.base + o + j, none⟩ = some v
  | 0, o, l, hg => by
    simp only [getN, Option.some.injEq] at hg; subst hg
    exact ⟨[], .nil, rfl, fun j v hj => by simp at hj⟩
  | n + 1, o, l, hg => by
    simp only [getN] at hg
    split at hg
    · rename_i x hx
      split at hg
      · rename_i l' hl'
        cases hg
        obtain ⟨vs, h1, h2, h3⟩ := getN_cells hR ha hl'
        obtain ⟨b, hb, y, hy, hr⟩ := hR.cell hx
        obtain rfl : b = a := Option.some.inj (hb.symm.trans ha)
        refine ⟨y :: vs, .cons hr h1, by simp [h2], fun j v hj => ?_⟩
        cases j with
        | zero => simp at hj; subst hj; exact hy
        | succ j =>
          have := h3 j v (by simpa using hj)
          rw [show b.base + o + (j + 1) = b.base + (o + 1) + j by omega]
          exact this
      · cases hg
    · cases hg
theorem bytesG_ok {ρ : Ren} : ∀ {l : List AV} {r : List UInt8} {vs : List Value}, bytesG l = some r → LRel ρ l vs → vs = r.map fun b => Value.int .u8 (b.toNat : Int)
  | [], r, vs, h, hl => by
    simp only [bytesG, Option.some.injEq] at h; subst h
    have : vs = [] := by simpa [LRel] using hl
    subst this; rfl
  | a :: l, r, vs, h, hl => by
    simp only [LRel] at hl
    obtain ⟨v, vs', rfl, h1, h2⟩ := hl
    cases a with
    | lit u =>
      cases u with
      | int k z =>
        cases k with
        | u8 =>
          simp only [bytesG] at h
          cases hc : (decide (0 ≤ z) && decide (z < 256)) <;> rw [hc] at h
          · cases h
          · simp only [cond_true] at h
            simp only [Bool.and_eq_true, decide_eq_true_eq] at hc
            split at h
            · rename_i r' hr
              cases h
              simp only [VRel] at h1
              subst h1
              rw [bytesG_ok hr h2]
              simp only [List.map_cons, List.cons.injEq, and_true]
              have h3 : z.toNat < 256 := by omega
              have h4 : (UInt8.ofNat z.toNat).toNat = z.toNat := by simp [UInt8.toNat_ofNat', Nat.mod_eq_of_lt h3]
              rw [h4]
              congr 1
              omega
            · cases h
        | _ => simp [bytesG] at h
      | _ => simp [bytesG] at h
    | _ => simp [bytesG] at h
theorem rText_ok {P : Program} {tt : TT} (hT : tt.ok P) {h h' : Heap} {ρ : Ren} {T : Nat → Prop} {w : World} (hR : Rel h ρ T w) {s d : TypeId} {x v : AV} {u : Value} (hr : rText tt s d x h = some (v, h')) (hu : VRel ρ x u) : XOk P (convert s d u) h ρ T w v h' := by
  unfold rText at hr
  split at hr
  · rename_i ts td hts htd
    split at hr
    · rename_i e hd1 hd2
      split at hr
      · rename_i te hte
        split at hr
        · rename_i hd3
          obtain ⟨i1, d1, z1, _, u1, _, _, _, _, m1⟩ := hT.info hts
          obtain ⟨i2, d2, z2, _, u2, _, _, _, _, m2⟩ := hT.info htd
          obtain ⟨i3, d3, z3, _, u3, _, _, _, _, m3⟩ := hT.info hte
          rw [mkTD_slice (m1.trans hd1)] at u1
          rw [mkTD_string (m2.trans hd2)] at u2
          have e3 : d3 = .int .u8 := by have := m3.trans hd3; cases d3 <;> simp [mkTD] at this; rw [this]
          rw [e3] at u3
          have main : ∀ (i o n cap : Nat) (a : Loc) (l : List AV) (r : List UInt8), ρ i = some a → getN h i o n = some l → bytesG l = some r → XOk P (convert s d (.slice (some ⟨a.blk, a.base + o, none⟩) n cap)) h ρ T w (.lit (.string ⟨r.toArray⟩)) h := fun i o n cap a l r ha hl hb => by
            have hcells := getN_cells hR ha hl
            obtain ⟨vs, hlr, hlen, hcs⟩ := hcells
            have hvs := bytesG_ok hb hlr
            have hrn : r.length = n := by rw [← hlen, hvs]; simp
            refine ⟨.string ⟨r.toArray⟩, w, ρ, ?_, fun _ _ => rfl, Ren.le_refl _, Nat.le_refl _, hR, by simp only [VRel], Keeps.refl _ _⟩
            have := run_convert_bytes_back (P := P) w s d e ⟨a.blk, a.base + o, none⟩ cap r u1 u3 u2 (fun j hj => by
              have := hcs j (.int .u8 (r[j].toNat : Int)) (by rw [hvs, List.getElem?_map, List.getElem?_eq_getElem hj]; rfl)
              unfold Addr.add
              split
              · rename_i hj0; subst hj0; simpa using this
              · exact this)
            rw [hrn] at this
            exact this
          split at hr
          · rename_i i o n sz
            split at hr
            · rename_i l hl
              split at hr
              · rename_i r hb
                cases hr
                simp only [VRel] at hu
                obtain ⟨a, c, ha, rfl, _⟩ := hu
                exact main i o n c a l r ha hl hb
              · cases hr
            · cases hr
          · rename_i i o n c
            split at hr
            · rename_i l hl
              split at hr
              · rename_i r hb
                cases hr
                simp only [VRel] at hu
                obtain ⟨a, ha, rfl⟩ := hu
                exact main i o n c a l r ha hl hb
              · cases hr
            · cases hr
          · cases hr
        · cases hr
      · cases hr
    · cases hr
  · cases hr

/-! ### The run is so -/
theorem rX_ok {P : Program} {tt : TT} (hT : tt.ok P) {h h' : Heap} {ρ : Ren} {T : Nat → Prop} {w : World} (hR : Rel h ρ T w) {o : Oper} {ev : Operand → AV} {e : Operand → Value} (he : ∀ x, VRel ρ (ev x) (e x)) {v : AV} (hr : rX tt o.op ev h = some (v, h')) :
    XR P (execOp e o) h ρ T w (fun v1 h1 => v1 = v ∧ h1 = h') := by
  obtain ⟨dst, op, ty, pos, after, guard⟩ := o
  have wrap : ∀ {s : Sem Value} {Q : AV → Heap → Prop}, XQ P s h ρ T w Q → XR P (do pure (Next.value (← s)) : Sem Next) h ρ T w Q := fun ⟨v, h', ⟨u, w', ρ', h1, h2, h3, h4, h5, h6, h7⟩, hq⟩ => ⟨v, h', u, w', ρ', .inl (run_next h1), h2, h3, h4, h5, h6, h7, hq⟩
  have put : ∀ (t : TypeId) (m k x : Operand) (s : Sem Next), rMapPut tt t (ev m) (ev k) (ev x) h = some (v, h') → (∀ w', (Instr.mapUpdate t (e m) (e k) (e x)).run P w = .ok () w' → s.run P w = .ok .skip w') → XR P s h ρ T w (fun v1 h1 => v1 = v ∧ h1 = h') := fun t m k x s hr hs => by
    obtain ⟨rfl, hq⟩ := rMapPut_ok hr
    obtain ⟨w', h2, h1, h2', h3, h4, h5⟩ := vMapPut_ok (P := P) hT hR hq (he m) (he k) (he x)
    subst h5
    exact ⟨_, _, undef, w', ρ, .inr ⟨hs _ h1, rfl⟩, fun _ _ => rfl, Ren.le_refl _, by omega, h2', by simp only [VRel], h4, rfl, rfl⟩
  cases op <;> simp only [rX] at hr <;> try (cases hr; done)
  case makeMap t r => exact wrap (vMakeMap_ok (o := r.map e) hR (by rw [Option.isSome_map]; exact rMakeMap_ok hr))
  case insert t m k x => exact put t m k x _ hr fun w' h1 => by simp [execOp, h1]
  case mapUpdate t m k x => exact put t m k x _ hr fun w' h1 => by simp [execOp, h1]
  case lookup t m k ok =>
    obtain ⟨rfl, hq⟩ := rLookup_ok hr
    obtain ⟨v2, ⟨u, h1, h2⟩, h3⟩ := vLookup_ok (P := P) hT hR hq (he m) (he k)
    subst h3
    exact ⟨_, _, u, w, ρ, .inl (by simp only [execOp]; exact run_next h1), fun _ _ => rfl, Ren.le_refl _, Nat.le_refl _, hR, h2, Keeps.refl _ _, rfl, rfl⟩
  case range t x =>
    obtain ⟨u, w', ρ', h1, h2⟩ := rRange_ok (P := P) hT hR hr (he x)
    exact wrap ⟨v, h', ⟨u, w', ρ', h1, h2⟩, rfl, rfl⟩
  case next it st =>
    cases st with
    | true => cases hr
    | false => exact wrap ⟨v, h', rNext_ok hR hr (he it), rfl, rfl⟩
  case convert s d x => exact wrap ⟨v, h', rText_ok hT hR hr (he x), rfl, rfl⟩
  case slice t x lo hi mx =>
    split at hr
    · rename_i v2 hv2
      cases hr
      obtain ⟨u, h1, h2⟩ := rTail_ok (P := P) hT hv2 (he x) (mapO_rel he lo) (mapO_rel he hi) (mapO_rel he mx)
      exact wrap ⟨_, _, ⟨u, w, ρ, h1 w, fun _ _ => rfl, Ren.le_refl _, Nat.le_refl _, hR, h2, Keeps.refl _ _⟩, rfl, rfl⟩
    · cases hr
  case entry it => exact wrap ⟨v, h', rEntry_ok hR hr (he it), rfl, rfl⟩
  case call c =>
    split at hr
    · rename_i hb
      split at hr
      · rename_i t tr x xr ht hx
        have hl : LRel ρ (c.args.toList.map ev) (c.args.map e).toList := by simpa using map_rel he c.args.toList
        rw [hx] at hl
        obtain ⟨u0, hu0, hr0⟩ := hl.get 0 x rfl
        obtain ⟨u, w', ρ', h1, h2, h3, h4, h5, h6, h7⟩ := rClear_ok (P := P) (ty := ty) (ts := c.argTypes) (us := c.args.map e) hT hR hr hr0 (by rw [← Array.getElem?_toList, ht]; rfl) (by simpa using hu0)
        refine ⟨v, h', u, w', ρ', .inl ?_, h2, h3, h4, h5, h6, h7, rfl, rfl⟩
        obtain ⟨cs, hcs⟩ := resolve_builtin (e := e) hb ty P w
        simp only [execOp, Sem.run_bind, hcs, Result.andThen_ok, invoke]
        have : (builtin .clear c.argTypes ty cs (c.args.map e)).run P w = (do pure (Next.value (← Builtin.clear_ c.argTypes ty (c.args.map e))) : Sem Next).run P w := rfl
        rw [this]
        simp [h1]
      · cases hr
    · cases hr

section
variable {α : Type} {P : Program} {tt : TT} {k n : Nat} {ops : Array Oper}
/-- A call, of a function with or without a body. -/
theorem rplan_callE {Q : Fr → Heap → Prop} {fr : Fr} {h : Heap} {i : Nat} {rest : List Stp} {o : Oper} {c : Call} {x : Operand} {g : FuncId} {first cap : List AV} (ho : ops[i]? = some o) (hop : o.op = .call c) (hcx : c.callee = .value x)
    (hw : wantedA ops o fr = some true) (hd : dstOk n o.dst = true) (hx : evA fr x = .fn (.func g) first cap) {args : List AV} (hargs : first ++ c.args.toList.map (evA fr) ++ cap = args)
    {K : AV → Heap → Prop} (hspec : SpE P g args h K) (hn : ∀ v h', K v h' → RPlan P k n ops rest Q (putF fr o.dst v) h') : RPlan P k n ops (.xx i :: rest) Q fr h := by
  rcases hspec with hspec | hspec
  · exact rplan_call ho hop hcx hw hd hx hargs hspec hn
  · intro ρ T w a hst
    have hxv := hst.fr.ev x
    rw [hx] at hxv
    simp only [VRel] at hxv
    obtain ⟨fa, ca, hxe, hfa, hca⟩ := hxv
    have hl : LRel ρ args (fa ++ c.args.map a.eval ++ ca).toList := by
      rw [← hargs]
      simp only [Array.toList_append, Array.toList_map]
      exact (hfa.append (map_rel (fun y => hst.fr.ev y) _)).append hca
    obtain ⟨v, h', u, w', ρ', r1, r2, r3, r4, r5, r6, r7, r8⟩ := hspec ρ T w _ hst.rel hl
    have hrun : RunsTo P (execOp a.eval o) w u w' := by
      obtain ⟨dst, op, ty, pos, after, guard⟩ := o
      simp only at hop
      subst hop
      refine .inl ?_
      simp only [execOp, resolve, hcx, hxe, Sem.run_bind, Deferred.ofValue, Sem.run_pure, Result.andThen_ok, invoke]
      exact r1
    refine wpOp_runs ho (wantedA_ok hst.fr hw) hrun ?_
    have hst' : St k n ρ' T (putF fr o.dst v) h' (a.put o.dst u) w' := ⟨Nat.le_trans hst.le r4, r5, (hst.fr.mono r3).put hd r6⟩
    exact wpPlan_mono (rpost_mono (fun j hj => r2 j (Nat.lt_of_lt_of_le hj hst.le)) r7) rest _ _ (hn v h' r8 ρ' T w' _ hst')
theorem rplan_gg {Q : Fr → Heap → Prop} (hT : tt.ok P) {fr fr' : Fr} {h h' : Heap} {i : Nat} {rest : List Stp} (hs : stepG tt n ops i fr h = some (fr', h')) (hn : RPlan P k n ops rest Q fr' h') : RPlan P k n ops (.xx i :: rest) Q fr h := by
  intro ρ T w a hst
  unfold stepG at hs
  split at hs
  · rename_i o ho
    cases hd : dstOk n o.dst <;> rw [hd] at hs
    · cases hs
    · simp only [cond_true] at hs
      split at hs
      · rename_i hw
        split at hs
        · rename_i v h2 hr
          cases hs
          obtain ⟨v1, h1, u, w', ρ', r1, r2, r3, r4, r5, r6, r7, rfl, rfl⟩ := rX_ok (P := P) hT hst.rel (o := o) (fun x => hst.fr.ev x) hr
          refine wpOp_runs ho (wantedA_ok hst.fr hw) r1 ?_
          have hst' : St k n ρ' T (putF fr o.dst v1) h1 (a.put o.dst u) w' := ⟨Nat.le_trans hst.le r4, r5, (hst.fr.mono r3).put hd r6⟩
          exact wpPlan_mono (rpost_mono (fun j hj => r2 j (Nat.lt_of_lt_of_le hj hst.le)) r7) rest _ _ (hn ρ' T w' _ hst')
        · cases hs
      · cases hs
  · cases hs

def CallOkG (P : Program) (call : RunG α) : Prop := ∀ g args h K a, call g args h K = .ok a → SpE P g args h (fun v h' => K v h' = .ok a)
theorem opsG_ok (hT : tt.ok P) {call : RunG α} (hc : CallOkG P call) {g : Nat} {Q : Fr → Heap → Rs α} {r : α} : ∀ (pl : List Stp) (fr : Fr) (h : Heap), opsG call tt g n ops Q pl fr h = .ok r → RPlan P k n ops pl (fun fr h => Q fr h = .ok r) fr h
  | [], fr, h, hr => rplan_nil hr
  | .nn i :: l, fr, h, hr => by
    simp only [opsG] at hr
    split at hr
    · rename_i f2 h2; exact rplan_nn hT h2 (opsG_ok hT hc l f2 h hr)
    · cases hr
  | .rr l :: m, fr, h, hr => by
    simp only [opsG] at hr
    split at hr
    · rename_i f2 h2; exact rplan_rr hT h2 (opsG_ok hT hc m f2 h hr)
    · cases hr
  | .xx i :: l, fr, h, hr => by
    simp only [opsG] at hr
    split at hr
    · rename_i g' args d hcall
      unfold callOf at hcall
      split at hcall
      · rename_i o ho
        split at hcall
        · rename_i c hop
          split at hcall
          · rename_i x hcx
            split at hcall
            · rename_i g2 first cap hx
              cases hd : dstOk n o.dst <;> rw [hd] at hcall
              · cases hcall
              · simp only [cond_true] at hcall
                split at hcall
                · rename_i hw
                  simp only [Option.some.injEq, Prod.mk.injEq] at hcall
                  obtain ⟨rfl, hargs, rfl⟩ := hcall
                  exact rplan_callE ho hop hcx hw hd hx hargs (hc _ _ _ _ _ hr) fun v h' hv => opsG_ok hT hc l _ _ hv
                · cases hcall
            · cases hcall
          · cases hcall
        · cases hcall
      · cases hcall
    · split at hr
      · rename_i f2 g2 h2; exact rplan_xx hT false h2 (opsG_ok hT hc l f2 g2 hr)
      · split at hr
        · rename_i f2 g2 h2; exact rplan_gg hT h2 (opsG_ok hT hc l f2 g2 hr)
        · cases hr

def XOk' (P : Program) (xt : XTbl) : Prop := ∀ g T, lookX xt g = some T → ∀ args h v h', T args h = some (v, h') → SpE P g args h (fun v1 h1 => v1 = v ∧ h1 = h')
end
end Go.Proofs.YtlocaplkfaepnaaGreat.SE
end
section
/- Regions that draw their order and make a variable: it may be made early. -/
namespace Go.Proofs.YtlocaplkfaepnaaGreat.SE
open Go
section
variable {P : Program} {tt : TT} {n : Nat} {ops : Array Oper}

theorem put_slots {a : Act} {d : Option Tmp} {v : Value} {t : Nat} (h : d ≠ some t) : (a.put d v).tmps.getD t undef = a.tmps.getD t undef := by
  cases d with
  | none => rfl
  | some d =>
    have : d ≠ t := fun hh => h (by rw [hh])
    simp only [Act.put, Array.getD_eq_getD_getElem?]
    rw [Array.getElem?_setIfInBounds_ne this]
theorem upon_slots {Q : Exit → Act → World → Prop} {o : Oper} {a : Act} {K : Act → World → Prop} : ∀ {r : Result Next}, o.upon P a K Q r → o.upon P a (fun a' w' => K a' w' ∧ ∀ t, o.dst ≠ some t → a'.tmps.getD t undef = a.tmps.getD t undef) Q r
  | .ok n w', hh => by
    have key : ∀ (a1 : Act) (v : Value) (w : World), a1.tmps = a.tmps → K (a1.put o.dst v) w → K (a1.put o.dst v) w ∧ ∀ t, o.dst ≠ some t → (a1.put o.dst v).tmps.getD t undef = a.tmps.getD t undef := fun a1 v w h1 hk => ⟨hk, fun t ht => by rw [put_slots ht, h1]⟩
    cases n <;> simp only [Oper.upon] at hh ⊢ <;>
      first
        | exact key _ _ _ rfl hh
        | exact Calls.mono hh (fun e w'' he => by cases e <;> first | exact key _ _ _ rfl he | exact he)
        | exact Rows.mono hh (fun _ _ he => key _ _ _ rfl he)
  | .halt x w', hh => by cases x <;> simp only [Oper.upon] at hh ⊢ <;> exact hh
theorem wpOp_slots {Q : Exit → Act → World → Prop} {i : Nat} {o : Oper} (ho : ops[i]? = some o) {a : Act} {w : World} {K : Act → World → Prop} (hh : wpOp P ops Q i K a w) :
    wpOp P ops Q i (fun a' w' => K a' w' ∧ ∀ t, o.dst ≠ some t → a'.tmps.getD t undef = a.tmps.getD t undef) a w := by
  unfold wpOp at *
  simp only [ho] at hh ⊢
  split
  · rename_i hw; simp only [hw, if_true] at hh; exact hh.imp (fun h => upon_slots h) id
  · rename_i hw; simp only [hw] at hh; exact ⟨hh, fun t ht => put_slots ht⟩
theorem wpOp_strip {Q Q' : Exit → Act → World → Prop} (hp : ∀ c a w, ¬ Q (.panic c) a w) (hl : ¬ LetsOut Q) {i : Nat} {a : Act} {w : World} {K : Act → World → Prop} (hh : wpOp P ops Q i K a w) : wpOp P ops Q' i K a w := by
  unfold wpOp at *
  split
  · rename_i ho; simp only [ho] at hh; exact hh
  · rename_i o ho
    simp only [ho] at hh
    split
    · rename_i hw
      simp only [hw, if_true] at hh
      refine .inl ?_
      rcases hh with hh | hh
      · unfold Oper.wp at *
        generalize (execOp a.eval o).run P w = r at *
        cases r with
        | ok n w' =>
          cases n <;> simp only [Oper.upon] at hh ⊢ <;>
            first
              | exact hh
              | exact Calls.mono hh (fun e w'' he => by cases e <;> first | exact he | exact (hp _ _ _ he).elim | exact (hl he).elim)
        | halt x w' => cases x <;> simp only [Oper.upon] at hh ⊢ <;> first | exact (hp _ _ _ hh).elim | exact hh
      · exact (hl hh.2).elim
    · rename_i hw; simp only [hw] at hh; exact hh

/-! ### One step, in a frame of which only its own slots are known -/
def dstV (fr : Fr) : Option Tmp → AV
  | some d => look fr d
  | none => .any
def ActS (P : Program) (n : Nat) (ops : Array Oper) (i : Nat) (fr : Fr) (h : Heap) (K : Fr → Heap → Prop) : Prop := ∃ o, ops[i]? = some o ∧ dstOk n o.dst = true ∧
  RPlan P h.next n ops [.xx i] (fun fr1 h1 => K (putF fr o.dst (dstV fr1 o.dst)) h1) (keepF fr (slotsOf ops i)) h
theorem rpost_panic {k : Nat} {ρ : Ren} {T : Nat → Prop} {w₀ : World} {Q : Fr → Heap → Prop} : (∀ c a w, ¬ rpost k n ρ T w₀ Q (.panic c) a w) ∧ ¬ LetsOut (rpost k n ρ T w₀ Q) := ⟨fun _ _ _ h => h, fun ⟨_, _, h⟩ => h⟩
theorem ActS.ok {i : Nat} {fr : Fr} {h : Heap} {K : Fr → Heap → Prop} (hs : ActS P n ops i fr h K) {ρ : Ren} {T : Nat → Prop} {w : World} {a : Act} {l : List Nat} (hR : Rel h ρ T w) (hf : FrRel ρ n (killF fr l) a) (hl : ∀ t ∈ slotsOf ops i, t ∉ l) {Q : Exit → Act → World → Prop} :
    wpOp P ops Q i (fun a' w' => ∃ fr' h' ρ', (∀ j, j < h.next → ρ' j = ρ j) ∧ h.next ≤ h'.next ∧ Rel h' ρ' T w' ∧ FrRel ρ' n (killF fr' (l.filter fun t => dstOf ops i != some t)) a' ∧ (∀ t, dstOf ops i ≠ some t → look fr' t = look fr t) ∧ Keeps T w w' ∧ K fr' h') a w := by
  obtain ⟨o, ho, hd, hp⟩ := hs
  have hdo : dstOf ops i = o.dst := by simp only [dstOf, ho]
  have h1 := hp ρ T w a ⟨Nat.le_refl _, hR, (SlotRel.of_kill hf hl).keep⟩
  unfold wpPlan at h1
  refine wpOp_mono ?_ (wpOp_strip (rpost_panic).1 (rpost_panic).2 (wpOp_slots ho h1))
  rintro a' w' ⟨⟨ρ', fr1, h', b1, b2, b3, b4⟩, hsl⟩
  have hle : ρ.le ρ' := fun j b hb => by
    have hj : j < h.next := by
      obtain ⟨_, _, _, _, r4, _⟩ := hR
      rcases Nat.lt_or_ge j h.next with hlt | hge
      · exact hlt
      · rw [r4 j hge] at hb; cases hb
    rw [b1 j hj]; exact hb
  refine ⟨putF fr o.dst (dstV fr1 o.dst), h', ρ', b1, b2.le, b2.rel, ⟨b2.fr.size, b2.fr.defers, fun t => ?_⟩, fun t ht => ?_, b3, b4⟩
  · rw [look_kill]
    by_cases ht : t ∈ l.filter fun t => dstOf ops i != some t
    · rw [if_pos ht]; simp only [VRel]
    · rw [if_neg ht]
      by_cases htd : o.dst = some t
      · rw [htd, look_putF, if_pos rfl]
        simp only [dstV]
        exact b2.fr.vals t
      · have htl : t ∉ l := fun hh => ht (List.mem_filter.2 ⟨hh, by rw [hdo]; simpa using htd⟩)
        have e : look (putF fr o.dst (dstV fr1 o.dst)) t = look fr t := by
          cases hod : o.dst with
          | none => rfl
          | some d => rw [look_putF, if_neg (fun hh => htd (by rw [hod, hh]))]
        rw [e, hsl t htd]
        have := hf.vals t
        rw [look_kill, if_neg htl] at this
        exact VRel.mono hle _ _ this
  · rw [hdo] at ht
    cases hod : o.dst with
    | none => rfl
    | some d => rw [look_putF, if_neg (fun hh => ht (by rw [hod, hh]))]
theorem ActS.mono {i : Nat} {fr : Fr} {h : Heap} {K K' : Fr → Heap → Prop} (hk : ∀ fr h, K fr h → K' fr h) (hs : ActS P n ops i fr h K) : ActS P n ops i fr h K' := by
  obtain ⟨o, ho, hd, hp⟩ := hs
  refine ⟨o, ho, hd, fun ρ T w a hst => wpPlan_mono (fun e a w hh => ?_) _ _ _ (hp ρ T w a hst)⟩
  cases e <;> first | (obtain ⟨ρ', fr1, h', b1, b2, b3, b4⟩ := hh; exact ⟨ρ', fr1, h', b1, b2, b3, hk _ _ b4⟩) | exact hh.elim

/-! ### The variable -/
/-- What is known of the operation q that makes a variable: its slot, its type, what lies in it. -/
structure AH (P : Program) (n : Nat) (ops : Array Oper) (q d : Nat) (e : TypeId) (z : Array Value) (c : Cs) : Prop where
  op : ∃ o, ops[q]? = some o ∧ o.op = .alloc e ∧ o.guard = none ∧ o.dst = some d
  lt : d < n
  free : ∀ j, hasEdge ops q j = false
  one : ∀ i, i ≠ q → dstOf ops i ≠ some d
  run : ∀ w, (Instr.alloc e true (.tuple #[])).run P w = .ok (.pointer (some ⟨w.heap.size, 0, none⟩)) (w.alloc (.cells z e))
  size : z.size = c.size
  rel : ∀ ρ, CRel ρ c z 0
def roLow (rs : List Nat) : HM → Bool
  | [] => true
  | (i, some (.ro c)) :: r => (Nat.beq c.size 0 || rs.contains i) && roLow rs r
  | _ :: r => roLow rs r
theorem roLow_get {rs : List Nat} : ∀ {m : HM} {i : Nat} {c : Cs}, roLow rs m = true → HM.get m i = some (.ro c) → c.size = 0 ∨ i ∈ rs
  | [], i, c, _, hg => by simp [HM.get] at hg
  | (j, x) :: r, i, c, hr, hg => by
    simp only [HM.get] at hg
    cases hb : Nat.beq j i <;> rw [hb] at hg
    · simp only [cond_false] at hg
      refine roLow_get (m := r) ?_ hg
      unfold roLow at hr
      split at hr
      · rename_i h; cases h
      · rename_i h; cases h; simp only [Bool.and_eq_true] at hr; exact hr.2
      · rename_i h; cases h; exact hr
    · simp only [cond_true] at hg
      subst hg
      unfold roLow at hr
      simp only [Bool.and_eq_true, Bool.or_eq_true] at hr
      rw [← Nat.eq_of_beq_eq_true hb]
      rcases hr.1 with h | h
      · exact .inl (Nat.eq_of_beq_eq_true h)
      · exact .inr (by simpa using h)
def roNums : HM → List Nat
  | [] => []
  | (i, some (.ro _)) :: r => i :: roNums r
  | _ :: r => roNums r

/-! ### Plans -/
def stepSP (P : Program) (n : Nat) (ops : Array Oper) (i : Nat) (fr : Fr) (h : Heap) (fr' : Fr) : Prop := (∀ t, dstOf ops i ≠ some t → look fr' t = look fr t) ∧ StillAt P n ops i fr' h
/-- What a plan does; b: q is still to come; kk: what may be read alone. -/
def plP (P : Program) (n : Nat) (ops : Array Oper) (q d : Nat) (e : TypeId) (c : Cs) (kk : List Nat) (Q : Fr → Heap → Prop) : Bool → Pl → Fr → Heap → Prop
  | _, .nil, fr, h => Q fr h
  | b, .st i p, fr, h => ∃ fr', stepSP P n ops i fr h fr' ∧ plP P n ops q d e c kk Q b p fr' h
  | b, .ac i _ rc p, fr, h => bif b && Nat.beq i q then (roLow kk h.m = true ∧ (∀ x ∈ rc, StillAt P n ops x (putF fr (some d) (.ptr h.next 0)) (h.push (.cells e c))) ∧ plP P n ops q d e c kk Q false p (putF fr (some d) (.ptr h.next 0)) (h.push (.cells e c)))
      else ActS P n ops i fr h (fun fr' h' => (∀ x ∈ rc, StillAt P n ops x fr' h') ∧ plP P n ops q d e c kk Q b p fr' h')
  | _, .alt _ _, _, _ => False
def isQ (b : Bool) (q i : Nat) : Bool := b && Nat.beq i q
def okB (ops : Array Oper) (q : Nat) : Bool → Pl → List Nat → Array Bool → Bool
  | _, .nil, _, A => (Region.ready .any ops A).isEmpty
  | b, .st i p, pend, A => (Region.ready .any ops A).contains i && stOk ops i && !isQ b q i && okB ops q b p (i :: pend) (A.setIfInBounds i true)
  | b, .ac i np rc p, pend, A => (Region.ready .any ops A).contains i && (Region.ready .any ops A).all (fun j => Nat.beq j i || isQ b q j) && (!b || Nat.beq i q || (Region.ready .any ops (A.setIfInBounds q true)).all fun j => Nat.beq j i) &&
      acOk ops i pend np rc && okB ops q (b && !Nat.beq i q) p np (A.setIfInBounds i true)
  | _, .alt _ _, _, _ => false

variable {q d : Nat} {e : TypeId} {z : Array Value} {c : Cs} {kk : List Nat} {fr0 : Fr} {k : Nat} {Q : Fr → Heap → Prop} {ρ₀ : Ren} {T : Nat → Prop} {w₀ : World}
structure JE (P : Program) (n : Nat) (ops : Array Oper) (q d : Nat) (e : TypeId) (c : Cs) (kk : List Nat) (fr0 : Fr) (k : Nat) (Q : Fr → Heap → Prop) (ρ₀ : Ren) (T : Nat → Prop) (w₀ : World) (b : Bool) (pl : Pl) (pend Pd : List Nat) (A : Array Bool) (fr : Fr) (h : Heap) (ρ : Ren) (s : Array Bool) (a : Act) (w : World) : Prop where
  ok : okB ops q b pl pend A = true
  asz : A.size = ops.size
  ssz : s.size = ops.size
  sub : ∀ i ∈ Pd, i ∈ pend
  pdA : ∀ i ∈ Pd, A.getD i false = true
  st : ∀ i ∈ Pd, stOk ops i = true
  eq : ∀ i, s.getD i false = (A.getD i false && !Pd.contains i)
  cs : Closed ops s
  cA : Closed ops A
  ren : ∀ i, i < k → ρ i = ρ₀ i
  keeps : Keeps T w₀ w
  kle : k ≤ h.next
  rel : Rel h ρ T w
  frm : FrRel ρ n (killF fr (DS ops Pd)) a
  still : ∀ p ∈ Pd, StillAt P n ops p fr h
  v : plP P n ops q d e c kk Q b pl fr h
  ag : ∀ t, (∀ i, dstOf ops i ≠ some t) → look fr t = look fr0 t
  dn : b = true → look fr d = .any
  qn : b = true → A.getD q false = false

theorem JE.peek {b : Bool} (hA : b = true → AH P n ops q d e z c) {i : Nat} {p : Pl} {pend Pd : List Nat} {A : Array Bool} {fr : Fr} {h : Heap} {ρ : Ren} {s : Array Bool} {a : Act} {w : World} (J : JE P n ops q d e c kk fr0 k Q ρ₀ T w₀ b (.st i p) pend Pd A fr h ρ s a w) :
    ∃ fr', JE P n ops q d e c kk fr0 k Q ρ₀ T w₀ b p (i :: pend) (i :: Pd) (A.setIfInBounds i true) fr' h ρ s a w := by
  have hok := J.ok
  simp only [okB, Bool.and_eq_true, Bool.not_eq_true'] at hok
  obtain ⟨⟨⟨hr, hst⟩, hiq⟩, hok⟩ := hok
  have hr : i ∈ Region.ready .any ops A := by simpa using hr
  obtain ⟨hlt, hAi⟩ := ready_lt hr
  have hAi := hAi J.asz
  obtain ⟨fr', ⟨hag, hsa⟩, hv⟩ := J.v
  have hiA : i < A.size := by rw [J.asz]; exact hlt
  have hiq' : b = true → i ≠ q := fun hb hh => by subst hh; rw [hb] at hiq; simp [isQ] at hiq
  refine ⟨fr', hok, by simp [J.asz], J.ssz, fun x hx => ?_, fun x hx => ?_, fun x hx => ?_, fun x => ?_, J.cs, closed_set J.cA hr, J.ren, J.keeps, J.kle, J.rel, ?_, fun x hx => ?_, hv, fun t ht => (hag t (ht i)).trans (J.ag t ht), fun hb => ?_, fun hb => ?_⟩
  · rcases List.mem_cons.1 hx with rfl | hx
    · simp
    · exact List.mem_cons_of_mem _ (J.sub x hx)
  · rw [getD_set_eq hiA]
    rcases List.mem_cons.1 hx with rfl | hx
    · simp
    · rw [J.pdA x hx]; simp
  · rcases List.mem_cons.1 hx with rfl | hx
    · exact hst
    · exact J.st x hx
  · rw [J.eq x, getD_set_eq hiA]
    by_cases hqi : x = i
    · subst hqi; rw [hAi]; simp
    · simp [nbeq_ne hqi, hqi]
  · refine J.frm.same fun t => ?_
    rw [look_kill, look_kill]
    by_cases h1 : t ∈ DS ops (i :: Pd)
    · rw [if_pos h1]; exact .inr rfl
    · rw [if_neg h1]
      have h2 : t ∉ DS ops Pd := fun hh => h1 (by obtain ⟨p, hp, hpd⟩ := mem_DS.1 hh; exact mem_DS.2 ⟨p, List.mem_cons_of_mem _ hp, hpd⟩)
      rw [if_neg h2]
      exact .inl (hag t fun hh => h1 (mem_DS.2 ⟨i, by simp, hh⟩))
  · rcases List.mem_cons.1 hx with rfl | hx
    · exact hsa
    · have hqA := J.pdA x hx
      have hqi : x ≠ i := fun hh => by rw [hh, hAi] at hqA; cases hqA
      have hqlt : x < ops.size := by
        rcases Nat.lt_or_ge x A.size with h' | h'
        · rw [J.asz] at h'; exact h'
        · simp [Array.getElem?_eq_none h'] at hqA
      refine (J.still x hx).congr (fun t ht => hag t fun hh => ?_) (fun d hd => hag d fun hh => ?_)
      · have := ((stOk_dst hst hh).2 x hqlt hqi).2 ht
        have hi := ancGo_ok J.cA (fun j hj => J.cA x j hqA hj) ops.size [] (fun _ hq => by cases hq) i this
        rw [hAi] at hi; cases hi
      · exact ((stOk_dst hst hh).2 x hqlt hqi).1 hd
  · rw [hag d ((hA hb).one i (hiq' hb))]; exact J.dn hb
  · rw [getD_set_eq hiA, J.qn hb, nbeq_ne (Ne.symm (hiq' hb))]; rfl

theorem JE.done {b : Bool} {pl : Pl} {pend Pd : List Nat} {A : Array Bool} {fr : Fr} {h : Heap} {ρ : Ren} {s : Array Bool} {a : Act} {w : World} (J : JE P n ops q d e c kk fr0 k Q ρ₀ T w₀ b pl pend Pd A fr h ρ s a w) {p : Nat} (hp : p ∈ Pd) (hr : p ∈ Region.ready .any ops s)
    {Qx : Exit → Act → World → Prop} : wpOp P ops Qx p (fun a' w' => JE P n ops q d e c kk fr0 k Q ρ₀ T w₀ b pl pend (Pd.filter (· != p)) A fr h ρ (s.setIfInBounds p true) a' w') a w := by
  obtain ⟨o, ho, hdo, hy⟩ := J.still p hp
  obtain ⟨hlt, hsp⟩ := ready_lt hr
  have hps : p < s.size := by rw [J.ssz]; exact hlt
  have e1 : slotsOf ops p = oSlots ops o := by simp only [slotsOf, ho]
  have e2 : dstOf ops p = o.dst := by simp only [dstOf, ho]
  have hsl : ∀ t ∈ oSlots ops o, t ∉ DS ops Pd := fun t ht hm => by
    obtain ⟨x, hx, hxd⟩ := mem_DS.1 hm
    by_cases hqp : x = p
    · subst hqp
      exact (stOk_dst (J.st x hx) hxd).1 (by rw [e1]; exact ht)
    · have := ((stOk_dst (J.st x hx) hxd).2 p hlt (Ne.symm hqp)).2 (by rw [e1]; exact ht)
      have hs := anc_ok J.cs hr x this
      rw [J.eq x] at hs
      simp [hx] at hs
  obtain ⟨u, hyu, hru⟩ := hy ρ T w a (fun _ => J.rel) (.of_kill J.frm hsl)
  refine YieldsAt.wpOp' ho hyu ⟨J.ok, J.asz, by simp [J.ssz], fun x hx => J.sub x (List.mem_filter.1 hx).1, fun x hx => J.pdA x (List.mem_filter.1 hx).1, fun x hx => J.st x (List.mem_filter.1 hx).1, fun x => ?_, closed_set J.cs hr, J.cA, J.ren, J.keeps, J.kle, J.rel, ?_, fun x hx => J.still x (List.mem_filter.1 hx).1, J.v, J.ag, J.dn, J.qn⟩
  · rw [getD_set_eq hps, J.eq x]
    by_cases hqp : x = p
    · subst hqp; rw [J.pdA x hp]; simp
    · rw [nbeq_ne hqp]
      simp [hqp]
  · have h1 := J.frm.put (v := match o.dst with | some d => look fr d | none => .any) hdo (show VRel ρ _ u by
      cases hod : o.dst with
      | none => simp only [VRel]
      | some d => exact hru d hod)
    refine h1.same fun t => ?_
    rw [look_kill]
    by_cases hm : t ∈ DS ops (Pd.filter (· != p))
    · rw [if_pos hm]; exact .inr rfl
    · rw [if_neg hm]
      refine .inl ?_
      have hnot : ∀ (hne : o.dst ≠ some t), t ∉ DS ops Pd := fun hne hh => by
        obtain ⟨x, hx, hxd⟩ := mem_DS.1 hh
        refine hm (mem_DS.2 ⟨x, List.mem_filter.2 ⟨hx, ?_⟩, hxd⟩)
        have : x ≠ p := fun hqp => hne (by rw [← e2, ← hqp]; exact hxd)
        simpa using this
      cases hod : o.dst with
      | none =>
        simp only [putF]
        rw [look_kill, if_neg (hnot (by rw [hod]; exact fun hh => by cases hh))]
      | some d =>
        rw [look_putF]
        by_cases htd : t = d
        · rw [if_pos htd, htd]
        · rw [if_neg htd, look_kill, if_neg (hnot (by rw [hod]; exact fun hh => htd (Option.some.inj hh).symm))]

/-- What pends stays among what pends, unless it must come ahead. -/
theorem JE.pends {b : Bool} {pl : Pl} {pend Pd np rc : List Nat} {A : Array Bool} {fr : Fr} {h : Heap} {ρ : Ren} {s : Array Bool} {a : Act} {w : World} {i : Nat} (J : JE P n ops q d e c kk fr0 k Q ρ₀ T w₀ b pl pend Pd A fr h ρ s a w) (hr : i ∈ Region.ready .any ops s) (hac : acOk ops i pend np rc = true) :
    (∀ x ∈ Pd, x ∈ np) ∧ (∀ t ∈ slotsOf ops i, t ∉ DS ops Pd) ∧ (∀ d, dstOf ops i = some d → ∀ x ∈ np, d ∉ slotsOf ops x ∧ dstOf ops x ≠ some d) ∧ (∀ x ∈ np, isLoad (opAt ops x) = false ∨ x ∈ rc) := by
  simp only [acOk, Bool.and_eq_true, List.all_eq_true, Bool.or_eq_true, Bool.not_eq_true'] at hac
  obtain ⟨⟨⟨a1, a2⟩, a3⟩, a4⟩ := hac
  have hPnp : ∀ x ∈ Pd, x ∈ np := fun x hx => by
    rcases a1 x (J.sub x hx) with h' | h'
    · have := anc_ok J.cs hr x (by simpa using h')
      rw [J.eq x] at this
      simp [hx] at this
    · simpa using h'
  refine ⟨hPnp, fun t ht hm => ?_, fun d hd x hx => ?_, fun x hx => ?_⟩
  · obtain ⟨x, hx, hxd⟩ := mem_DS.1 hm
    have := a2 t ht
    have h2 : t ∈ DS ops np := mem_DS.2 ⟨x, hPnp x hx, hxd⟩
    simp [h2] at this
  · rw [hd] at a3
    simp only [List.all_eq_true, Bool.and_eq_true, Bool.not_eq_true'] at a3
    obtain ⟨c1, c2⟩ := a3 x hx
    refine ⟨by simpa using c1, fun hh => ?_⟩
    rw [hh] at c2; simp at c2
  · rcases a4 x hx with h' | h'
    · exact .inl h'
    · exact .inr (by simpa using h')
/-- What pends is as it was behind an operation that acts. -/
theorem still_on {i : Nat} {np rc Pd : List Nat} {fr fr' : Fr} {h h' : Heap} (hPnp : ∀ x ∈ Pd, x ∈ np) (hdst : ∀ d, dstOf ops i = some d → ∀ x ∈ np, d ∉ slotsOf ops x ∧ dstOf ops x ≠ some d) (h4 : ∀ x ∈ np, isLoad (opAt ops x) = false ∨ x ∈ rc)
    (b5 : ∀ t, dstOf ops i ≠ some t → look fr' t = look fr t) (b7 : ∀ x ∈ rc, StillAt P n ops x fr' h') (hs : ∀ p ∈ Pd, StillAt P n ops p fr h) : ∀ p ∈ Pd, StillAt P n ops p fr' h' := by
  intro x hx
  have hxnp := hPnp x hx
  rcases h4 x hxnp with hn | hl
  · have hst := (hs x hx).congr (fr' := fr') (fun t ht => b5 t fun hh => (hdst t hh x hxnp).1 ht) (fun d hd => b5 d fun hh => (hdst d hh x hxnp).2 hd)
    obtain ⟨oq, hoq, hdq, hyq⟩ := hst
    refine ⟨oq, hoq, hdq, fun ρ T w a hR hf => hyq ρ T w a (fun hl => ?_) hf⟩
    have : opAt ops x = oq.op := by simp only [opAt, hoq]
    rw [this, hl] at hn
    cases hn
  · exact b7 x hl
theorem JE.act {b : Bool} (hA : b = true → AH P n ops q d e z c) {i : Nat} {np rc : List Nat} {p : Pl} {pend Pd : List Nat} {A : Array Bool} {fr : Fr} {h : Heap} {ρ : Ren} {s : Array Bool} {a : Act} {w : World} (J : JE P n ops q d e c kk fr0 k Q ρ₀ T w₀ b (.ac i np rc p) pend Pd A fr h ρ s a w)
    (hiq : isQ b q i = false) (hr : i ∈ Region.ready .any ops s) (hiP : i ∉ Pd) {Qx : Exit → Act → World → Prop} : wpOp P ops Qx i (fun a' w' => ∃ fr' h' ρ', JE P n ops q d e c kk fr0 k Q ρ₀ T w₀ b p np Pd (A.setIfInBounds i true) fr' h' ρ' (s.setIfInBounds i true) a' w') a w := by
  have hok := J.ok
  simp only [okB, Bool.and_eq_true] at hok
  obtain ⟨⟨⟨⟨hrA, _⟩, _⟩, hac⟩, hokp⟩ := hok
  have hrA : i ∈ Region.ready .any ops A := by simpa using hrA
  have hb : (b && !Nat.beq i q) = b := by
    cases b with
    | false => rfl
    | true => simp only [isQ, Bool.true_and] at hiq; rw [hiq]; rfl
  rw [hb] at hokp
  obtain ⟨hlt, hsi⟩ := ready_lt hr
  have hsi := hsi J.ssz
  have his : i < s.size := by rw [J.ssz]; exact hlt
  have hiA : i < A.size := by rw [J.asz]; exact hlt
  have hv := J.v
  simp only [plP] at hv
  rw [show (b && Nat.beq i q) = false from hiq] at hv
  simp only [cond_false] at hv
  obtain ⟨hPnp, hsl, hdst, h4⟩ := J.pends hr hac
  have hiq' : b = true → i ≠ q := fun hb' hh => by subst hh; rw [hb'] at hiq; simp [isQ] at hiq
  refine wpOp_mono ?_ (hv.ok (Q := Qx) J.rel J.frm hsl)
  rintro a' w' ⟨fr', h', ρ', b1, b2, b3, b4, b5, b6, b7, b8⟩
  refine ⟨fr', h', ρ', hokp, by simp [J.asz], by simp [J.ssz], hPnp, fun x hx => getD_set_true (J.pdA x hx), J.st, fun x => ?_, closed_set J.cs hr, closed_set J.cA hrA, fun j hj => (b1 j (Nat.lt_of_lt_of_le hj J.kle)).trans (J.ren j hj), J.keeps.trans b6, Nat.le_trans J.kle b2, b3, ?_, still_on hPnp hdst h4 b5 b7 J.still, b8, fun t ht => (b5 t (ht i)).trans (J.ag t ht), fun hb' => ?_, fun hb' => ?_⟩
  · rw [getD_set_eq his, getD_set_eq hiA, J.eq x]
    by_cases hqj : x = i
    · subst hqj; simp [hiP]
    · rw [nbeq_ne hqj]; simp
  · refine b4.same fun t => ?_
    rw [look_kill, look_kill]
    by_cases hm : t ∈ DS ops Pd
    · rw [if_pos hm]; exact .inr rfl
    · rw [if_neg hm, if_neg (fun hh => hm (List.mem_filter.1 hh).1)]; exact .inl rfl
  · rw [b5 d ((hA hb').one i (hiq' hb'))]; exact J.dn hb'
  · rw [getD_set_eq hiA, J.qn hb', nbeq_ne (Ne.symm (hiq' hb'))]; rfl

/-- The variable made, in its turn. -/
theorem frel_put {ρ ρ' : Ren} {fr : Fr} {l : List Nat} {a : Act} {d : Nat} {v : AV} {u : Value} (hf : FrRel ρ n (killF fr l) a) (hle : ρ.le ρ') (hd : d < n) (hv : VRel ρ' v u) : FrRel ρ' n (killF (putF fr (some d) v) l) (a.put (some d) u) := by
  have h1 := (hf.mono hle).put (d := some d) (v := v) (u := u) (nblt_iff.2 hd) hv
  refine h1.same fun t => ?_
  rw [look_kill, look_putF, look_putF, look_kill]
  by_cases hm : t ∈ l
  · rw [if_pos hm]; exact .inr rfl
  · rw [if_neg hm]
    by_cases ht : t = d
    · rw [if_pos ht, if_pos ht]; exact .inl rfl
    · rw [if_neg ht, if_neg ht, if_neg hm]; exact .inl rfl
theorem alloc_runs (hA : AH P n ops q d e z c) {Qx : Exit → Act → World → Prop} {a : Act} {w : World} {K : Act → World → Prop} (hK : K (a.put (some d) (.pointer (some ⟨w.heap.size, 0, none⟩))) (w.alloc (.cells z e))) : wpOp P ops Qx q K a w := by
  obtain ⟨o, ho, hop, hg, hd⟩ := hA.op
  refine wpOp_runs ho (u := .pointer (some ⟨w.heap.size, 0, none⟩)) (w' := w.alloc (.cells z e)) ?_ ?_ (by rw [hd]; exact hK)
  · simp [Region.wanted, hg]
  · refine .inl ?_
    obtain ⟨dst, op, ty, pos, after, guard⟩ := o
    simp only at hop
    subst hop
    exact run_next (hA.run w)

theorem q_ready (hA : AH P n ops q d e z c) {s : Array Bool} (hsz : s.size = ops.size) (hq : s.getD q false = false) : q ∈ Region.ready .any ops s := by
  obtain ⟨o, ho, _⟩ := hA.op
  exact ready_of hsz ho hq fun j hj => by rw [hA.free j] at hj; cases hj
/-- Behind the making of the variable: the state, however it came about. -/
theorem JE.behind (hA : AH P n ops q d e z c) {np rc : List Nat} {p : Pl} {pend Pd : List Nat} {A : Array Bool} {fr : Fr} {h : Heap} {ρ ρ' : Ren} {s : Array Bool} {a a' : Act} {w w' : World} {T' : Nat → Prop} {k' : Nat} {ρ₁ : Ren} {w₁ : World}
    (J : JE P n ops q d e c kk fr0 k' Q ρ₁ T' w₁ true (.ac q np rc p) pend Pd A fr h ρ s a w) (hle : ρ.le ρ') (hren : ∀ i, i < k → ρ' i = ρ₀ i) (hk : k ≤ h.next) (hkeep : Keeps T w₀ w')
    (hrel : Rel (h.push (.cells e c)) ρ' T w') (hf : FrRel ρ' n (killF (putF fr (some d) (.ptr h.next 0)) (DS ops Pd)) a') :
    JE P n ops q d e c kk fr0 k Q ρ₀ T w₀ false p np Pd (A.setIfInBounds q true) (putF fr (some d) (.ptr h.next 0)) (h.push (.cells e c)) ρ' (s.setIfInBounds q true) a' w' := by
  have hok := J.ok
  simp only [okB, Bool.and_eq_true] at hok
  obtain ⟨⟨⟨⟨hrA, _⟩, _⟩, hac⟩, hokp⟩ := hok
  have hrA : q ∈ Region.ready .any ops A := by simpa using hrA
  rw [show (true && !Nat.beq q q) = false by rw [Nat.beq_refl]; rfl] at hokp
  have hAq := J.qn rfl
  have hqP : q ∉ Pd := fun hh => by rw [J.pdA q hh] at hAq; cases hAq
  have hsq : s.getD q false = false := by rw [J.eq q, hAq]; rfl
  have hr : q ∈ Region.ready .any ops s := q_ready hA J.ssz hsq
  obtain ⟨hlt, _⟩ := ready_lt hr
  have hqs : q < s.size := by rw [J.ssz]; exact hlt
  have hqA : q < A.size := by rw [J.asz]; exact hlt
  obtain ⟨o, ho, hop, hg, hd⟩ := hA.op
  have hdo : dstOf ops q = some d := by simp only [dstOf, ho, hd]
  have hv := J.v
  simp only [plP] at hv
  rw [show (true && Nat.beq q q) = true by rw [Nat.beq_refl]; rfl] at hv
  simp only [cond_true] at hv
  obtain ⟨_, b7, b8⟩ := hv
  obtain ⟨hPnp, hsl, hdst, h4⟩ := J.pends hr hac
  have b5 : ∀ t, dstOf ops q ≠ some t → look (putF fr (some d) (.ptr h.next 0)) t = look fr t := fun t ht => by
    rw [look_putF, if_neg (fun hh => ht (by rw [hdo, hh]))]
  refine ⟨hokp, by simp [J.asz], by simp [J.ssz], hPnp, fun x hx => getD_set_true (J.pdA x hx), J.st, fun x => ?_, closed_set J.cs hr, closed_set J.cA hrA, hren, hkeep, by simp; omega, hrel, hf, still_on hPnp hdst h4 b5 b7 J.still, b8, fun t ht => (b5 t (ht q)).trans (J.ag t ht), (fun hb => by cases hb), (fun hb => by cases hb)⟩
  rw [getD_set_eq hqs, getD_set_eq hqA, J.eq x]
  by_cases hqj : x = q
  · subst hqj; simp [hqP]
  · rw [nbeq_ne hqj]; simp
theorem JE.actQ (hA : AH P n ops q d e z c) {np rc : List Nat} {p : Pl} {pend Pd : List Nat} {A : Array Bool} {fr : Fr} {h : Heap} {ρ : Ren} {s : Array Bool} {a : Act} {w : World}
    (J : JE P n ops q d e c kk fr0 k Q ρ₀ T w₀ true (.ac q np rc p) pend Pd A fr h ρ s a w) {Qx : Exit → Act → World → Prop} :
    wpOp P ops Qx q (fun a' w' => ∃ fr' h' ρ', JE P n ops q d e c kk fr0 k Q ρ₀ T w₀ false p np Pd (A.setIfInBounds q true) fr' h' ρ' (s.setIfInBounds q true) a' w') a w := by
  obtain ⟨ρ', g1, g2, g3, g4, g5⟩ := J.rel.push_cells (e := e) (c := c) (arr := z) hA.size (hA.rel ρ)
  refine alloc_runs hA ⟨_, _, ρ', J.behind hA g1 (fun i hi => (g3 i (Nat.lt_of_lt_of_le hi J.kle)).trans (J.ren i hi)) J.kle (J.keeps.trans g5) g4 (frel_put J.frm g1 hA.lt ?_)⟩
  simp only [VRel]
  exact ⟨_, g2, rfl⟩

/-- The variable is made, ahead of its turn: block b. -/
structure JF (P : Program) (n : Nat) (ops : Array Oper) (q d : Nat) (e : TypeId) (z : Array Value) (c : Cs) (kk : List Nat) (fr0 : Fr) (k : Nat) (Q : Fr → Heap → Prop) (ρ₀ : Ren) (T : Nat → Prop) (w₀ : World) (pl : Pl) (pend Pd : List Nat) (A : Array Bool) (fr : Fr) (h : Heap) (ρ : Ren) (s : Array Bool) (a : Act) (w : World) (b k1 : Nat) (ρ1 : Ren) (w1 : World) : Prop where
  J : JE P n ops q d e c kk fr0 k1 Q ρ1 (fun x => T x ∧ x ≠ b) w1 true pl pend Pd A fr h ρ s a w
  slot : a.tmps.getD d undef = .pointer (some ⟨b, 0, none⟩)
  blk : w1.heap[b]? = some (.cells z e (0, 0))
  kk1 : ∀ i ∈ kk, i < k1
  k1k : k ≤ k1
  ren : ∀ i, i < k → ρ1 i = ρ₀ i
  keeps : Keeps T w₀ w1
  Tb : T b
  lt : b < w1.heap.size
  out : ∀ i ∈ kk, ∀ a, ρ1 i = some a → a.blk ≠ b

theorem JE.early (hA : AH P n ops q d e z c) (hkk : ∀ i ∈ kk, i < k ∧ ∀ a, ρ₀ i = some a → a.blk < w₀.heap.size) {pl : Pl} {pend Pd : List Nat} {A : Array Bool} {fr : Fr} {h : Heap} {ρ : Ren} {s : Array Bool} {a : Act} {w : World}
    (J : JE P n ops q d e c kk fr0 k Q ρ₀ T w₀ true pl pend Pd A fr h ρ s a w) {Qx : Exit → Act → World → Prop} :
    wpOp P ops Qx q (fun a' w' => ∃ b k1 ρ1 w1, JF P n ops q d e z c kk fr0 k Q ρ₀ T w₀ pl pend Pd A fr h ρ s a' w' b k1 ρ1 w1) a w := by
  have hT : ∀ x, w.heap.size ≤ x → T x := by obtain ⟨_, _, _, _, _, h5⟩ := J.rel; exact h5
  refine alloc_runs hA ⟨w.heap.size, h.next, ρ, w.alloc (.cells z e), ⟨?_, ?_, ?_, fun i hi => Nat.lt_of_lt_of_le (hkk i hi).1 J.kle, J.kle, J.ren, J.keeps.trans (Keeps.alloc _ hT), hT _ (Nat.le_refl _), by simp, fun i hi a ha hb => ?_⟩⟩
  · refine ⟨J.ok, J.asz, J.ssz, J.sub, J.pdA, J.st, J.eq, J.cs, J.cA, fun _ _ => rfl, Keeps.refl _ _, Nat.le_refl _, ?_, ?_, J.still, J.v, J.ag, J.dn, J.qn⟩
    · obtain ⟨S, h1, h2, h3, h4, h5⟩ := J.rel
      have hsame : ∀ x, x < w.heap.size → (w.alloc (.cells z e)).heap[x]? = w.heap[x]? := fun x hx => by
        show (w.heap.push _)[x]? = _
        rw [Array.getElem?_push_lt hx, Array.getElem?_eq_getElem hx]
      refine ⟨S, fun i o hi => ?_, h2, fun i o x hi hx => ?_, h4, fun x hx => ?_⟩
      · obtain ⟨a1, ha, ho⟩ := h1 i o hi
        refine ⟨a1, ha, ?_⟩
        have st := ho.stays (w' := w.alloc (.cells z e)) fun x hx => by
          refine hsame x ?_
          rcases hx with hx | hx
          · exact (h3 i o x hi hx).2
          · rcases Nat.lt_or_ge x w.heap.size with h' | h'
            · exact h'
            · exact (hx (h5 x h')).elim
        cases o with
        | ro c1 =>
          rcases st with h0 | ⟨hT1, r⟩
          · exact .inl h0
          · exact .inr ⟨fun hh => hT1 hh.1, r⟩
        | _ => exact st
      · obtain ⟨g1, g2⟩ := h3 i o x hi hx
        refine ⟨⟨g1, by omega⟩, ?_⟩
        simp; omega
      · have : w.heap.size + 1 ≤ x := by simpa using hx
        exact ⟨h5 x (by omega), by omega⟩
    · have h1 := J.frm.put (d := some d) (v := .any) (u := .pointer (some ⟨w.heap.size, 0, none⟩)) (nblt_iff.2 hA.lt) (by simp only [VRel])
      refine h1.same fun t => ?_
      rw [look_putF]
      by_cases ht : t = d
      · rw [if_pos ht, look_kill]
        by_cases hm : t ∈ DS ops Pd
        · rw [if_pos hm]; exact .inl rfl
        · rw [if_neg hm, ht]; exact .inl (J.dn rfl)
      · rw [if_neg ht]; exact .inl rfl
  · have hlt : d < a.tmps.size := by rw [J.frm.size]; exact hA.lt
    simp [Act.put, hlt]
  · show (w.heap.push _)[w.heap.size]? = _
    simp
  · have h1 := (hkk i hi).2 a (by rw [← J.ren i (hkk i hi).1]; exact ha)
    have h2 := J.keeps.size
    omega

/-- A block that lies beside all objects becomes one. -/
theorem Rel.claim {h : Heap} {ρ : Ren} {T : Nat → Prop} {w : World} {b : Nat} {e : TypeId} {z : Array Value} {c : Cs} (hR : Rel h ρ (fun x => T x ∧ x ≠ b) w) (hb : w.heap[b]? = some (.cells z e (0, 0))) (Tb : T b) (hsz : z.size = c.size) (hc : ∀ ρ, CRel ρ c z 0)
    (hro : ∀ i cc a, h.get i = some (.ro cc) → ρ i = some a → cc.size = 0 ∨ a.blk ≠ b) : ∃ ρ', ρ.le ρ' ∧ ρ' h.next = some ⟨b, 0, c.size⟩ ∧ (∀ i, i < h.next → ρ' i = ρ i) ∧ Rel (h.push (.cells e c)) ρ' T w := by
  obtain ⟨S, h1, h2, h3, h4, h5⟩ := hR
  have hlt : b < w.heap.size := (Array.getElem?_eq_some_iff.1 hb).1
  let ρ' : Ren := fun i => if i = h.next then some ⟨b, 0, c.size⟩ else ρ i
  have hle : ρ.le ρ' := fun i a ha => by
    by_cases hi : i = h.next
    · rw [hi, h4 h.next (Nat.le_refl _)] at ha; cases ha
    · simp [ρ', hi, ha]
  refine ⟨ρ', hle, by simp [ρ'], fun i hi => by simp [ρ', Nat.ne_of_lt hi], fun i => if i = h.next then (fun x => x = b) else S i, fun i x hi => ?_, fun i j x y u hi hj hij hSi hSj => ?_, fun i x u hi hSi => ?_, fun i hi => ?_, fun u hu => ?_⟩
  · rw [Heap.get_push] at hi
    by_cases hin : i = h.next
    · rw [if_pos hin] at hi; cases hi
      refine ⟨⟨b, 0, c.size⟩, by simp [ρ', hin], ?_⟩
      simp only [hin, if_true]
      exact ⟨rfl, rfl, z, hb, hsz, rfl, hc _⟩
    · rw [if_neg hin] at hi
      obtain ⟨a, ha, hx⟩ := h1 i x hi
      refine ⟨a, hle _ _ ha, ?_⟩
      simp only [if_neg hin]
      have hx := hx.mono hle
      cases x with
      | ro cc =>
        rcases hro i cc a hi ha with h0 | h0
        · exact .inl h0
        · rcases hx with hx | ⟨hT, r⟩
          · exact .inl hx
          · exact .inr ⟨fun hh => hT ⟨hh, h0⟩, r⟩
      | _ => exact hx
  · rw [Heap.get_push] at hi hj
    by_cases hin : i = h.next
    · have hjn : ¬ j = h.next := fun hh => hij (hin.trans hh.symm)
      rw [if_neg hjn] at hj
      simp only [if_pos hin] at hSi
      simp only [if_neg hjn] at hSj
      exact (h3 j y u hj hSj).1.2 hSi
    · rw [if_neg hin] at hi
      simp only [if_neg hin] at hSi
      by_cases hjn : j = h.next
      · simp only [if_pos hjn] at hSj
        exact (h3 i x u hi hSi).1.2 hSj
      · rw [if_neg hjn] at hj
        simp only [if_neg hjn] at hSj
        exact h2 i j x y u hi hj hij hSi hSj
  · rw [Heap.get_push] at hi
    by_cases hin : i = h.next
    · simp only [if_pos hin] at hSi
      rw [hSi]; exact ⟨Tb, hlt⟩
    · rw [if_neg hin] at hi
      simp only [if_neg hin] at hSi
      obtain ⟨g1, g2⟩ := h3 i x u hi hSi
      exact ⟨g1.1, g2⟩
  · have hi' : h.next + 1 ≤ i := by simpa using hi
    simp only [ρ']
    rw [if_neg (by omega)]
    exact h4 i (by omega)
  · exact (h5 u hu).1
theorem Keeps.weaken {T T' : Nat → Prop} {w w' : World} (h : Keeps T' w w') (hT : ∀ x, T' x → T x) : Keeps T w w' := ⟨h.size, h.os, h.tape, h.output, fun x hx => h.block x fun hh => hx (hT x hh)⟩

theorem JF.turn (hA : AH P n ops q d e z c) {np rc : List Nat} {p : Pl} {pend Pd : List Nat} {A : Array Bool} {fr : Fr} {h : Heap} {ρ : Ren} {s : Array Bool} {a : Act} {w : World} {b k1 : Nat} {ρ1 : Ren} {w1 : World}
    (F : JF P n ops q d e z c kk fr0 k Q ρ₀ T w₀ (.ac q np rc p) pend Pd A fr h ρ s a w b k1 ρ1 w1) :
    ∃ fr' h' ρ', JE P n ops q d e c kk fr0 k Q ρ₀ T w₀ false p np Pd (A.setIfInBounds q true) fr' h' ρ' (s.setIfInBounds q true) a w := by
  have J := F.J
  have hv := J.v
  simp only [plP] at hv
  rw [show (true && Nat.beq q q) = true by rw [Nat.beq_refl]; rfl] at hv
  simp only [cond_true] at hv
  have hblk : w.heap[b]? = some (.cells z e (0, 0)) := by rw [J.keeps.block b (fun hh => hh.2 rfl)]; exact F.blk
  obtain ⟨ρ', g1, g2, g3, g4⟩ := Rel.claim J.rel hblk F.Tb hA.size hA.rel (fun i cc a hi ha => by
    rcases roLow_get hv.1 hi with h0 | h0
    · exact .inl h0
    · exact .inr (F.out i h0 a (by rw [← J.ren i (F.kk1 i h0)]; exact ha)))
  have hok := J.ok
  simp only [okB, Bool.and_eq_true] at hok
  obtain ⟨⟨⟨⟨hrA, _⟩, _⟩, hac⟩, hokp⟩ := hok
  have hAq := J.qn rfl
  have hsq : s.getD q false = false := by rw [J.eq q, hAq]; rfl
  obtain ⟨hPnp, hsl, hdst, h4⟩ := J.pends (q_ready hA J.ssz hsq) hac
  have hdo : dstOf ops q = some d := by obtain ⟨o, ho, _, _, hd⟩ := hA.op; simp only [dstOf, ho, hd]
  refine ⟨_, _, ρ', J.behind hA g1 (fun i hi => ?_) (Nat.le_trans F.k1k J.kle) (F.keeps.trans (J.keeps.weaken fun x hx => hx.1)) g4 ⟨J.frm.size, J.frm.defers, fun t => ?_⟩⟩
  · rw [g3 i (Nat.lt_of_lt_of_le hi (Nat.le_trans F.k1k J.kle)), J.ren i (Nat.lt_of_lt_of_le hi F.k1k)]; exact F.ren i hi
  · rw [look_kill]
    by_cases hm : t ∈ DS ops Pd
    · rw [if_pos hm]; simp only [VRel]
    · rw [if_neg hm, look_putF]
      by_cases ht : t = d
      · rw [if_pos ht, ht, F.slot]
        simp only [VRel]
        exact ⟨_, g2, rfl⟩
      · rw [if_neg ht]
        have := J.frm.vals t
        rw [look_kill, if_neg hm] at this
        exact VRel.mono g1 _ _ this
theorem set_comm {s : Array Bool} {i j : Nat} : (s.setIfInBounds i true).setIfInBounds j true = (s.setIfInBounds j true).setIfInBounds i true := by
  by_cases h : i = j
  · subst h; rfl
  · exact Array.setIfInBounds_comm _ _ h
theorem JF.step {pl : Pl} {pend Pd : List Nat} {A : Array Bool} {fr : Fr} {h : Heap} {ρ : Ren} {s : Array Bool} {a : Act} {w : World} {b k1 : Nat} {ρ1 : Ren} {w1 : World} (hA : AH P n ops q d e z c)
    (F : JF P n ops q d e z c kk fr0 k Q ρ₀ T w₀ pl pend Pd A fr h ρ s a w b k1 ρ1 w1) {i : Nat} (hi : i ≠ q) (hio : i < ops.size) {Qx : Exit → Act → World → Prop} {pl' : Pl} {pend' Pd' : List Nat} {A' : Array Bool}
    (hw : wpOp P ops Qx i (fun a' w' => ∃ fr' h' ρ', JE P n ops q d e c kk fr0 k1 Q ρ1 (fun x => T x ∧ x ≠ b) w1 true pl' pend' Pd' A' fr' h' ρ' (s.setIfInBounds i true) a' w') a w) :
    wpOp P ops Qx i (fun a' w' => ∃ fr' h' ρ', JF P n ops q d e z c kk fr0 k Q ρ₀ T w₀ pl' pend' Pd' A' fr' h' ρ' (s.setIfInBounds i true) a' w' b k1 ρ1 w1) a w := by
  have ho : ops[i]? = some ops[i] := by simp [hio]
  refine wpOp_mono ?_ (wpOp_slots ho hw)
  rintro a' w' ⟨⟨fr', h', ρ', J⟩, hsl⟩
  refine ⟨fr', h', ρ', J, ?_, F.blk, F.kk1, F.k1k, F.ren, F.keeps, F.Tb, F.lt, F.out⟩
  rw [hsl d (fun hh => hA.one i hi (by simp only [dstOf, ho, hh]))]
  exact F.slot

theorem JE.readyA {b : Bool} {pl : Pl} {pend Pd : List Nat} {A : Array Bool} {fr : Fr} {h : Heap} {ρ : Ren} {s : Array Bool} {a : Act} {w : World} (J : JE P n ops q d e c kk fr0 k Q ρ₀ T w₀ b pl pend Pd A fr h ρ s a w) {j : Nat} (hj : j ∈ Region.ready .any ops s) (hjP : j ∉ Pd) : j ∈ Region.ready .any ops A := by
  obtain ⟨hlt, hsj⟩ := ready_lt hj
  have hsj := hsj J.ssz
  have hAj : A.getD j false = false := by
    have := J.eq j
    rw [hsj] at this
    have hc : Pd.contains j = false := by simpa using hjP
    rw [hc] at this
    simpa using this.symm
  obtain ⟨_, o, ho, hall⟩ := mem_ready.1 hj
  refine ready_of J.asz ho hAj fun x hx => ?_
  simp only [hasEdge, ho, List.any_eq_true, Bool.and_eq_true] at hx
  obtain ⟨ed, he, hb, hx⟩ := hx
  have := hall ed (by simpa using he) hb
  rw [Nat.eq_of_beq_eq_true hx, J.eq x] at this
  simp only [Bool.and_eq_true] at this
  exact this.1
theorem ready_back {s : Array Bool} {j : Nat} (hsz : s.size = ops.size) (hjq : j ≠ q) (hqlt : q < ops.size) (hj : j ∈ Region.ready .any ops (s.setIfInBounds q true)) (hno : hasEdge ops j q = false) : j ∈ Region.ready .any ops s := by
  obtain ⟨hlt, hsj⟩ := ready_lt hj
  have hsj := hsj (by simp [hsz])
  have hqs : q < s.size := by rw [hsz]; exact hqlt
  obtain ⟨_, o, ho, hall⟩ := mem_ready.1 hj
  rw [getD_set_eq hqs, nbeq_ne hjq, Bool.false_or] at hsj
  refine ready_of hsz ho hsj fun x hx => ?_
  have hxq : x ≠ q := fun hh => by rw [hh, hno] at hx; cases hx
  simp only [hasEdge, ho, List.any_eq_true, Bool.and_eq_true] at hx
  obtain ⟨ed, he, hb, hx⟩ := hx
  have := hall ed (by simpa using he) hb
  rw [Nat.eq_of_beq_eq_true hx, getD_set_eq hqs, nbeq_ne hxq, Bool.false_or] at this
  exact this
theorem no_edge {s : Array Bool} {j : Nat} (hj : j ∈ Region.ready .any ops s) (hq : s.getD q false = false) : hasEdge ops j q = false := by
  cases hx : hasEdge ops j q with
  | false => rfl
  | true =>
    obtain ⟨_, o, ho, hall⟩ := mem_ready.1 hj
    simp only [hasEdge, ho, List.any_eq_true, Bool.and_eq_true] at hx
    obtain ⟨ed, he, hb, hx⟩ := hx
    have := hall ed (by simpa using he) hb
    rw [Nat.eq_of_beq_eq_true hx, hq] at this
    cases this
/-- What pends comes up. -/
theorem JE.comes (hdn : edgesDown ops = true) {b : Bool} {pl : Pl} {pend Pd : List Nat} {A : Array Bool} {fr : Fr} {h : Heap} {ρ : Ren} {s : Array Bool} {a : Act} {w : World} (J : JE P n ops q d e c kk fr0 k Q ρ₀ T w₀ b pl pend Pd A fr h ρ s a w) (hr : ∀ p ∈ Pd, p ∉ Region.ready .any ops s) : Pd = [] := by
  have hinA : ∀ x, A.getD x false = true → ∃ o, ops[x]? = some o := fun x hx => by
    have : x < A.size := by
      rcases Nat.lt_or_ge x A.size with h' | h'
      · exact h'
      · simp [Array.getElem?_eq_none h'] at hx
    rw [J.asz] at this
    exact ⟨ops[x], by simp [this]⟩
  have hlow : ∀ x j, hasEdge ops x j = true → j < x := fun x j hx => by
    unfold hasEdge at hx
    split at hx
    · rename_i o ho
      have hlt := (Array.getElem?_eq_some_iff.1 ho).1
      simp only [edgesDown, List.all_eq_true, List.mem_range] at hdn
      have := hdn x hlt
      simp only [ho, List.all_eq_true, Bool.or_eq_true, Bool.not_eq_true'] at this
      simp only [List.any_eq_true, Bool.and_eq_true] at hx
      obtain ⟨ed, he, hb, hj⟩ := hx
      rcases this ed he with h' | h'
      · rw [hb] at h'; cases h'
      · rw [← Nat.eq_of_beq_eq_true hj]; exact nblt_iff.1 h'
    · cases hx
  have hmin : ∀ m x, x ≤ m → x ∈ Pd → False := by
    intro m
    induction m using Nat.strongRecOn with
    | _ m ih =>
      intro x hxm hx
      obtain ⟨o, ho⟩ := hinA x (J.pdA x hx)
      refine hr x hx (ready_of J.ssz ho (by rw [J.eq x]; simp [hx]) fun j hj => ?_)
      have hjq := hlow x j hj
      have hjA := J.cA x j (J.pdA x hx) hj
      rw [J.eq j, hjA]
      have : j ∉ Pd := fun hh => ih j (by omega) j (Nat.le_refl _) hh
      simp [this]
  cases Pd with
  | nil => rfl
  | cons x l => exact (hmin x x (Nat.le_refl _) (by simp)).elim
theorem JE.sA {b : Bool} {pl : Pl} {pend : List Nat} {A : Array Bool} {fr : Fr} {h : Heap} {ρ : Ren} {s : Array Bool} {a : Act} {w : World} (J : JE P n ops q d e c kk fr0 k Q ρ₀ T w₀ b pl pend [] A fr h ρ s a w) : s = A := ext_of_getD (by rw [J.ssz, J.asz]) fun i => by rw [J.eq i]; simp
theorem JE.fin (hdn : edgesDown ops = true) {b : Bool} {pl : Pl} {pend Pd : List Nat} {A : Array Bool} {fr : Fr} {h : Heap} {ρ : Ren} {s : Array Bool} {a : Act} {w : World} (J : JE P n ops q d e c kk fr0 k Q ρ₀ T w₀ b pl pend Pd A fr h ρ s a w) (hnorm : ∀ i p, pl ≠ .st i p)
    (hr : Region.ready .any ops s = []) : After k n ρ₀ T w₀ (fun fr h => (∀ t, (∀ i, dstOf ops i ≠ some t) → look fr t = look fr0 t) ∧ Q fr h) a w := by
  have hPd := J.comes hdn (fun p _ hp => by rw [hr] at hp; cases hp)
  subst hPd
  have hsA := J.sA
  subst hsA
  have hok := J.ok
  cases pl with
  | nil => exact ⟨ρ, fr, h, J.ren, ⟨J.kle, J.rel, J.frm⟩, J.keeps, J.ag, J.v⟩
  | st i p => exact (hnorm i p rfl).elim
  | ac i np rc p =>
    simp only [okB, Bool.and_eq_true] at hok
    have := hok.1.1.1.1
    rw [hr] at this; cases this
  | alt p q => simp [okB] at hok
theorem JE.norm : ∀ {b : Bool} (_hA : b = true → AH P n ops q d e z c) {pl : Pl} {pend Pd : List Nat} {A : Array Bool} {fr : Fr} {h : Heap} {ρ : Ren} {s : Array Bool} {a : Act} {w : World}, JE P n ops q d e c kk fr0 k Q ρ₀ T w₀ b pl pend Pd A fr h ρ s a w →
    ∃ pl' pend' Pd' A' fr', (∀ i p, pl' ≠ .st i p) ∧ JE P n ops q d e c kk fr0 k Q ρ₀ T w₀ b pl' pend' Pd' A' fr' h ρ s a w
  | b, hA, .st i p, pend, Pd, A, fr, h, ρ, s, a, w, J => by
    obtain ⟨fr', J'⟩ := J.peek hA
    exact JE.norm hA J'
  | b, _, .nil, pend, Pd, A, fr, h, ρ, s, a, w, J => ⟨_, _, _, _, _, (fun i p hh => by cases hh), J⟩
  | b, _, .ac .., pend, Pd, A, fr, h, ρ, s, a, w, J => ⟨_, _, _, _, _, (fun i p hh => by cases hh), J⟩
  | b, _, .alt .., pend, Pd, A, fr, h, ρ, s, a, w, J => ⟨_, _, _, _, _, (fun i p hh => by cases hh), J⟩

/-- Forgetting what was said of a state. -/
abbrev endQ (ops : Array Oper) (fr0 : Fr) (Q : Fr → Heap → Prop) : Fr → Heap → Prop := fun fr h => (∀ t, (∀ i, dstOf ops i ≠ some t) → look fr t = look fr0 t) ∧ Q fr h
def cnt (ops : Array Oper) (s : Array Bool) : Nat := (List.range ops.size).countP (fun i => !s.getD i false)
theorem cnt_set {s : Array Bool} {j m : Nat} (hsz : s.size = ops.size) (hj : j ∈ Region.ready .any ops s) (hm : cnt ops s ≤ m + 1) : cnt ops (s.setIfInBounds j true) ≤ m := by
  obtain ⟨hlt, hsj⟩ := ready_lt hj
  have hsj := hsj hsz
  have hjs : j < s.size := by rw [hsz]; exact hlt
  have := cnt_lt (p := fun i => !(s.setIfInBounds j true).getD i false) (q := fun i => !s.getD i false) (x := j) (List.range ops.size) (fun y _ hy => by
    simp only [getD_set_eq hjs, Bool.not_eq_true', Bool.or_eq_false_iff] at hy ⊢; exact hy.2) (by simpa using hlt) (by simp only [hsj]; rfl) (by simp only [getD_set_eq hjs, Nat.beq_refl]; rfl)
  unfold cnt at hm ⊢
  omega
theorem cnt_zero {s : Array Bool} (hsz : s.size = ops.size) (hm : cnt ops s ≤ 0) : Region.ready .any ops s = [] := by
  cases hr : Region.ready .any ops s with
  | nil => rfl
  | cons x l =>
    exfalso
    obtain ⟨hlt, hx⟩ := ready_lt (ops := ops) (s := s) (q := x) (by rw [hr]; simp)
    have : 0 < cnt ops s := List.countP_pos_iff.2 ⟨x, by simpa using hlt, by simp only [hx hsz]; rfl⟩
    omega

section
variable (hA : AH P n ops q d e z c) (hdn : edgesDown ops = true) (hkk : ∀ i ∈ kk, i < k ∧ ∀ a, ρ₀ i = some a → a.blk < w₀.heap.size)
include hA hdn hkk
theorem wpAny_E : ∀ (m : Nat),
    (∀ {b : Bool} {pl : Pl} {pend Pd : List Nat} {A : Array Bool} {fr : Fr} {h : Heap} {ρ : Ren} {s : Array Bool} {a : Act} {w : World}, JE P n ops q d e c kk fr0 k Q ρ₀ T w₀ b pl pend Pd A fr h ρ s a w → cnt ops s ≤ m →
      wpAny P .any ops (rpost k n ρ₀ T w₀ (endQ ops fr0 Q)) m s a w) ∧
    (∀ {pl : Pl} {pend Pd : List Nat} {A : Array Bool} {fr : Fr} {h : Heap} {ρ : Ren} {s : Array Bool} {a : Act} {w : World} {b k1 : Nat} {ρ1 : Ren} {w1 : World}, JF P n ops q d e z c kk fr0 k Q ρ₀ T w₀ pl pend Pd A fr h ρ s a w b k1 ρ1 w1 → cnt ops (s.setIfInBounds q true) ≤ m →
      wpAny P .any ops (rpost k n ρ₀ T w₀ (endQ ops fr0 Q)) m (s.setIfInBounds q true) a w) := by
  have hqo : q < ops.size := by obtain ⟨o, ho, _⟩ := hA.op; exact (Array.getElem?_eq_some_iff.1 ho).1
  intro m
  induction m with
  | zero =>
    have part1 : ∀ {b : Bool} {pl : Pl} {pend Pd : List Nat} {A : Array Bool} {fr : Fr} {h : Heap} {ρ : Ren} {s : Array Bool} {a : Act} {w : World}, JE P n ops q d e c kk fr0 k Q ρ₀ T w₀ b pl pend Pd A fr h ρ s a w → cnt ops s ≤ 0 → wpAny P .any ops (rpost k n ρ₀ T w₀ (endQ ops fr0 Q)) 0 s a w := fun J hm => by
      obtain ⟨pl', pend', Pd', A', fr', hn, J'⟩ := JE.norm (fun _ => hA) J
      have hr := cnt_zero J.ssz hm
      exact ⟨hr, J'.fin hdn hn hr⟩
    refine ⟨part1, fun F hm => ?_⟩
    have hr := cnt_zero (ops := ops) (by simp [F.J.ssz]) hm
    obtain ⟨pl', pend', Pd', A', fr', hn, J'⟩ := JE.norm (fun _ => hA) F.J
    have F' : JF P n ops q d e z c kk fr0 k Q ρ₀ T w₀ pl' pend' Pd' A' fr' _ _ _ _ _ _ _ _ _ := ⟨J', F.slot, F.blk, F.kk1, F.k1k, F.ren, F.keeps, F.Tb, F.lt, F.out⟩
    have hok := J'.ok
    cases pl' with
    | st i p => exact (hn i p rfl).elim
    | alt x y => simp [okB] at hok
    | nil =>
      simp only [okB, List.isEmpty_iff] at hok
      have := q_ready hA J'.asz (J'.qn rfl)
      rw [hok] at this; cases this
    | ac i np rc p =>
      by_cases hiq : i = q
      · subst hiq
        obtain ⟨_, _, _, J2⟩ := F'.turn hA
        exact part1 J2 hm
      · exfalso
        simp only [okB, Bool.and_eq_true] at hok
        have hiA : i ∈ Region.ready .any ops A' := by simpa using hok.1.1.1.1
        have hPd := J'.comes hdn (fun p hp hpr => by
          have hpq : p ≠ q := fun hh => by have h1 := J'.pdA p hp; rw [hh, J'.qn rfl] at h1; cases h1
          have := ready_mono (i := q) hpr hpq
          rw [hr] at this; cases this)
        subst hPd
        have hsA := J'.sA
        subst hsA
        have := ready_mono (i := q) hiA hiq
        rw [hr] at this; cases this
  | succ m ih =>
    have part1 : ∀ {b : Bool} {pl : Pl} {pend Pd : List Nat} {A : Array Bool} {fr : Fr} {h : Heap} {ρ : Ren} {s : Array Bool} {a : Act} {w : World}, JE P n ops q d e c kk fr0 k Q ρ₀ T w₀ b pl pend Pd A fr h ρ s a w → cnt ops s ≤ m + 1 → wpAny P .any ops (rpost k n ρ₀ T w₀ (endQ ops fr0 Q)) (m + 1) s a w := by
      intro b pl pend Pd A fr h ρ s a w J hm
      obtain ⟨pl', pend', Pd', A', fr', hn, J'⟩ := JE.norm (fun _ => hA) J
      refine ⟨fun hr => J'.fin hdn hn hr, fun j hj => ?_⟩
      have hcnt := cnt_set J.ssz hj hm
      by_cases hjp : j ∈ Pd'
      · exact wpOp_mono (fun a' w' J2 => ih.1 J2 hcnt) (J'.done hjp hj)
      · have hjA := J'.readyA hj hjp
        have hok := J'.ok
        cases pl' with
        | st i p => exact (hn i p rfl).elim
        | alt x y => simp [okB] at hok
        | nil =>
          simp only [okB, List.isEmpty_iff] at hok
          rw [hok] at hjA; cases hjA
        | ac i np rc p =>
          simp only [okB, Bool.and_eq_true, List.all_eq_true, Bool.or_eq_true] at hok
          have hcase := hok.1.1.1.2 j hjA
          cases hiq : isQ b q i with
          | true =>
            simp only [isQ, Bool.and_eq_true] at hiq
            obtain ⟨hb, hiq⟩ := hiq
            have hiq := Nat.eq_of_beq_eq_true hiq
            subst hb; subst hiq
            have hji : j = i := by
              rcases hcase with h' | h'
              · exact Nat.eq_of_beq_eq_true h'
              · simp only [isQ, Bool.true_and] at h'; exact Nat.eq_of_beq_eq_true h'
            subst hji
            exact wpOp_mono (fun a' w' ⟨_, _, _, J2⟩ => ih.1 J2 hcnt) (J'.actQ hA)
          | false =>
            by_cases hjq : isQ b q j = true
            · simp only [isQ, Bool.and_eq_true] at hjq
              obtain ⟨hb, hjq⟩ := hjq
              have hjq := Nat.eq_of_beq_eq_true hjq
              subst hb; subst hjq
              exact wpOp_mono (fun a' w' ⟨_, _, _, _, F⟩ => ih.2 F hcnt) (J'.early hA hkk)
            · have hji : j = i := by
                rcases hcase with h' | h'
                · exact Nat.eq_of_beq_eq_true h'
                · exact (hjq h').elim
              subst hji
              exact wpOp_mono (fun a' w' ⟨_, _, _, J2⟩ => ih.1 J2 hcnt) (J'.act (fun _ => hA) hiq hj hjp)
    refine ⟨part1, fun {pl} {pend} {Pd} {A} {fr} {h} {ρ} {s} {a} {w} {b} {k1} {ρ1} {w1} F hm => ?_⟩
    obtain ⟨pl', pend', Pd', A', fr', hn, J'⟩ := JE.norm (fun _ => hA) F.J
    have F' : JF P n ops q d e z c kk fr0 k Q ρ₀ T w₀ pl' pend' Pd' A' fr' h ρ s a w b k1 ρ1 w1 := ⟨J', F.slot, F.blk, F.kk1, F.k1k, F.ren, F.keeps, F.Tb, F.lt, F.out⟩
    have hok := J'.ok
    have hAq := J'.qn rfl
    cases pl' with
    | st i p => exact (hn i p rfl).elim
    | alt x y => simp [okB] at hok
    | nil =>
      simp only [okB, List.isEmpty_iff] at hok
      have := q_ready hA J'.asz hAq
      rw [hok] at this; cases this
    | ac i np rc p =>
      by_cases hiq : i = q
      · subst hiq
        obtain ⟨_, _, _, J2⟩ := F'.turn hA
        exact part1 J2 hm
      · have hsq : s.getD q false = false := by rw [J'.eq q, hAq]; rfl
        have hib : isQ true q i = false := by simp only [isQ, Bool.true_and]; exact nbeq_ne hiq
        simp only [okB, Bool.and_eq_true] at hok
        have hiA : i ∈ Region.ready .any ops A' := by simpa using hok.1.1.1.1
        have hall : ∀ j ∈ Region.ready .any ops (A'.setIfInBounds q true), j = i := fun j hj => by
          have h1 := hok.1.1.2
          simp only [Bool.or_eq_true, nbeq_ne hiq, Bool.not_true, Bool.false_eq_true, false_or, List.all_eq_true] at h1
          exact Nat.eq_of_beq_eq_true (h1 j hj)
        refine ⟨fun hr => ?_, fun j hj => ?_⟩
        · exfalso
          have hPd := J'.comes hdn (fun p hp hpr => by
            have hpq : p ≠ q := fun hh => by have h1 := J'.pdA p hp; rw [hh, hAq] at h1; cases h1
            have := ready_mono (i := q) hpr hpq
            rw [hr] at this; cases this)
          subst hPd
          have hsA := J'.sA
          subst hsA
          have := ready_mono (i := q) hiA hiq
          rw [hr] at this; cases this
        · have hsz' : (s.setIfInBounds q true).size = ops.size := by simp [J'.ssz]
          have hqs : q < s.size := by rw [J'.ssz]; exact hqo
          obtain ⟨hjlt, hjs⟩ := ready_lt hj
          have hjs := hjs hsz'
          have hjq : j ≠ q := fun hh => by rw [hh, getD_set_eq hqs, Nat.beq_refl] at hjs; cases hjs
          have hcnt := cnt_set hsz' hj hm
          rw [set_comm] at hcnt ⊢
          by_cases hjp : j ∈ Pd'
          · have hno : hasEdge ops j q = false := by
              cases hx : hasEdge ops j q with
              | false => rfl
              | true => have := J'.cA j q (J'.pdA j hjp) hx; rw [hAq] at this; cases this
            have hjr := ready_back J'.ssz hjq hqo hj hno
            exact wpOp_mono (fun a' w' ⟨_, _, _, F2⟩ => ih.2 F2 hcnt) (F'.step hA hjq hjlt (wpOp_mono (fun a' w' J2 => ⟨_, _, _, J2⟩) (J'.done hjp hjr)))
          · have hjA2 : j ∈ Region.ready .any ops (A'.setIfInBounds q true) := by
              obtain ⟨_, o, ho, hdeps⟩ := mem_ready.1 hj
              have hqA : q < A'.size := by rw [J'.asz]; exact hqo
              rw [getD_set_eq hqs, nbeq_ne hjq, Bool.false_or] at hjs
              have hAj : A'.getD j false = false := by
                have := J'.eq j
                rw [hjs] at this
                have hc : Pd'.contains j = false := by simpa using hjp
                rw [hc] at this
                simpa using this.symm
              refine ready_of (by simp [J'.asz]) ho (by rw [getD_set_eq hqA, nbeq_ne hjq, hAj]; rfl) fun x hx => ?_
              simp only [hasEdge, ho, List.any_eq_true, Bool.and_eq_true] at hx
              obtain ⟨ed, he, hb, hx⟩ := hx
              have := hdeps ed (by simpa using he) hb
              rw [Nat.eq_of_beq_eq_true hx, getD_set_eq hqs] at this
              rw [getD_set_eq hqA]
              by_cases hxq : x = q
              · subst hxq; rw [Nat.beq_refl]; rfl
              · rw [nbeq_ne hxq, Bool.false_or] at this ⊢
                rw [J'.eq x] at this
                simp only [Bool.and_eq_true] at this
                exact this.1
            have hji := hall j hjA2
            subst hji
            have hjr := ready_back J'.ssz hjq hqo hj (no_edge hiA hAq)
            exact wpOp_mono (fun a' w' ⟨_, _, _, F2⟩ => ih.2 F2 hcnt) (F'.step hA hjq hjlt (J'.act (fun _ => hA) hib hjr hjp))
end
theorem wpAny_N (hdn : edgesDown ops = true) : ∀ (m : Nat) {pl : Pl} {pend Pd : List Nat} {A : Array Bool} {fr : Fr} {h : Heap} {ρ : Ren} {s : Array Bool} {a : Act} {w : World}, JE P n ops q d e c kk fr0 k Q ρ₀ T w₀ false pl pend Pd A fr h ρ s a w → cnt ops s ≤ m →
      wpAny P .any ops (rpost k n ρ₀ T w₀ (endQ ops fr0 Q)) m s a w
  | 0, pl, pend, Pd, A, fr, h, ρ, s, a, w, J, hm => by
    obtain ⟨pl', pend', Pd', A', fr', hn, J'⟩ := JE.norm (z := #[]) (fun hb => by cases hb) J
    have hr := cnt_zero J.ssz hm
    exact ⟨hr, J'.fin hdn hn hr⟩
  | m + 1, pl, pend, Pd, A, fr, h, ρ, s, a, w, J, hm => by
    obtain ⟨pl', pend', Pd', A', fr', hn, J'⟩ := JE.norm (z := #[]) (fun hb => by cases hb) J
    refine ⟨fun hr => J'.fin hdn hn hr, fun j hj => ?_⟩
    have hcnt := cnt_set J.ssz hj hm
    by_cases hjp : j ∈ Pd'
    · exact wpOp_mono (fun a' w' J2 => wpAny_N hdn m J2 hcnt) (J'.done hjp hj)
    · have hjA := J'.readyA hj hjp
      have hok := J'.ok
      cases pl' with
      | st i p => exact (hn i p rfl).elim
      | alt x y => simp [okB] at hok
      | nil =>
        simp only [okB, List.isEmpty_iff] at hok
        rw [hok] at hjA; cases hjA
      | ac i np rc p =>
        simp only [okB, Bool.and_eq_true, List.all_eq_true, Bool.or_eq_true] at hok
        have hji : j = i := by
          rcases hok.1.1.1.2 j hjA with h' | h'
          · exact Nat.eq_of_beq_eq_true h'
          · simp [isQ] at h'
        subst hji
        exact wpOp_mono (fun a' w' ⟨_, _, _, J2⟩ => wpAny_N hdn m J2 hcnt) (J'.act (z := #[]) (fun hb => by cases hb) (by simp [isQ]) hj hjp)
end
end Go.Proofs.YtlocaplkfaepnaaGreat.SE
end
section
/- Closed calls, run: with regions in which a variable may be made early. -/
namespace Go.Proofs.YtlocaplkfaepnaaGreat.SE
open Go

/-! ### What is looked for in a region -/
def noEdges (o : Oper) : Bool := o.after.toList.all fun e => !Region.binds .any e
def qAt (ops : Array Oper) (i : Nat) : Option (Nat × TypeId) := match ops[i]? with
  | some o => match o.op, o.guard, o.dst with
    | .alloc e, none, some d => bif noEdges o && (List.range ops.size).all (fun j => Nat.beq j i || (match dstOf ops j with | some d' => !Nat.beq d' d | none => true)) then some (d, e) else none
    | _, _, _ => none
  | none => none
def findQ (ops : Array Oper) : List Nat → Option (Nat × Nat × TypeId)
  | [] => none
  | i :: l => match qAt ops i with
    | some (d, e) => some (i, d, e)
    | none => findQ ops l
def zeroC (ti : TI) : Cs := bif Nat.blt 40 ti.zero.length then .tr ti.zero.length (toAV ti.zero) .leaf else .av (toAV ti.zero)
def planE (ops : Array Oper) (q : Nat) : Nat → List Nat → Array Bool → Pl
  | 0, _, _ => .nil
  | f + 1, pend, A => match (Region.ready .any ops A).find? (fun i => stOk ops i && !Nat.beq i q) with
    | some i => .st i (planE ops q f (i :: pend) (A.setIfInBounds i true))
    | none => match (Region.ready .any ops A).filter (fun i => !Nat.beq i q) with
      | [] => bif (Region.ready .any ops A).contains q then planOne ops (planE ops q f) pend A q else .nil
      | i :: _ => planOne ops (planE ops q f) pend A i
def none0 (ops : Array Oper) : Array Bool := Array.replicate ops.size false
/-- The variable, and a plan. -/
def floatOf (ops : Array Oper) : Option (Nat × Nat × TypeId × Pl) := match findQ ops (List.range ops.size) with
  | some (q, d, e) => let pl := planE ops q (ops.size + 1) [] (none0 ops)
    bif okB ops q true pl [] (none0 ops) && edgesDown ops then some (q, d, e, pl) else none
  | none => none
/-- A plan, where no variable is made early. -/
def plainOf (ops : Array Oper) : Option Pl := let pl := planE ops ops.size (ops.size + 1) [] (none0 ops)
  bif okB ops ops.size false pl [] (none0 ops) && edgesDown ops then some pl else none
def roCur (m : HM) : List Nat := (roNums m).filter fun i => match HM.get m i with
  | some (.ro c) => Nat.blt 0 c.size
  | _ => false

/-! ### The run of such a region -/
mutual
def sameAV : AV → AV → Bool
  | .lit (.int k x), .lit (.int k' y) => decide (k = k') && decide (x = y)
  | .lit (.bool x), .lit (.bool y) => decide (x = y)
  | .lit (.string x), .lit (.string y) => decide (x = y)
  | .lit (.pointer none), .lit (.pointer none) => true
  | .lit (.slice none a b), .lit (.slice none a' b') => Nat.beq a a' && Nat.beq b b'
  | .ptr i o, .ptr j p => Nat.beq i j && Nat.beq o p
  | .sl i o a b, .sl j p a' b' => Nat.beq i j && Nat.beq o p && Nat.beq a a' && Nat.beq b b'
  | .slU i o a b, .slU j p a' b' => Nat.beq i j && Nat.beq o p && Nat.beq a a' && Nat.beq b b'
  | .mp i, .mp j => Nat.beq i j
  | .agg l, .agg m => sameAVs l m
  | .tup l, .tup m => sameAVs l m
  | _, _ => false
def sameAVs : List AV → List AV → Bool
  | [], [] => true
  | a :: l, b :: m => sameAV a b && sameAVs l m
  | _, _ => false
end
mutual
theorem sameAV_eq : ∀ {a b : AV}, sameAV a b = true → a = b := by
  intro a b h
  unfold sameAV at h
  split at h <;> first
    | (simp only [Bool.and_eq_true, decide_eq_true_eq] at h; obtain ⟨rfl, rfl⟩ := h; rfl)
    | (simp only [decide_eq_true_eq] at h; subst h; rfl)
    | rfl
    | (simp only [Bool.and_eq_true] at h; obtain ⟨⟨⟨h1, h2⟩, h3⟩, h4⟩ := h; rw [Nat.eq_of_beq_eq_true h1, Nat.eq_of_beq_eq_true h2, Nat.eq_of_beq_eq_true h3, Nat.eq_of_beq_eq_true h4])
    | (simp only [Bool.and_eq_true] at h; obtain ⟨h1, h2⟩ := h; rw [Nat.eq_of_beq_eq_true h1, Nat.eq_of_beq_eq_true h2])
    | (rw [Nat.eq_of_beq_eq_true h])
    | (rw [sameAVs_eq h])
    | cases h
theorem sameAVs_eq : ∀ {l m : List AV}, sameAVs l m = true → l = m
  | [], [], _ => rfl
  | a :: l, b :: m, h => by
    simp only [sameAVs, Bool.and_eq_true] at h
    rw [sameAV_eq h.1, sameAVs_eq h.2]
  | [], _ :: _, h => by simp [sameAVs] at h
  | _ :: _, [], h => by simp [sameAVs] at h
end
def dstFree (ops : Array Oper) (i : Nat) : Bool := match dstOf ops i with
  | some d => !(slotsOf ops i).contains d
  | none => true
/-- An operation that only looks: what it yields, in a frame of its slots alone. -/
def lookG (tt : TT) (n : Nat) (ops : Array Oper) (i : Nat) (fr : Fr) (h : Heap) : Option Fr := bif dstFree ops i then (match stepN tt n ops i (keepF fr (slotsOf ops i)) with
  | some fr1 => some fr1
  | none => bif isLoad (opAt ops i) then stepR tt n ops i (keepF fr (slotsOf ops i)) h else none) else none
def againG (tt : TT) (n : Nat) (ops : Array Oper) (fr : Fr) (h : Heap) : List Nat → Bool
  | [] => true
  | x :: l => (match lookG tt n ops x fr h with
    | some fr1 => match dstOf ops x with
      | some d => sameAV (look fr1 d) (look fr d)
      | none => true
    | none => false) && againG tt n ops fr h l
section
variable {α : Type}
def plG (call : RunG α) (tt : TT) (g n : Nat) (ops : Array Oper) (q d : Nat) (e : TypeId) (c : Cs) (kk : List Nat) (Q : Fr → Heap → Rs α) : Bool → Pl → Fr → Heap → Rs α
  | _, .nil, fr, h => Q fr h
  | b, .st i p, fr, h => match lookG tt n ops i fr h with
    | some fr1 => plG call tt g n ops q d e c kk Q b p (putF fr (dstOf ops i) (dstV fr1 (dstOf ops i))) h
    | none => .no [g, i, 21]
  | b, .ac i _ rc p, fr, h => bif b && Nat.beq i q then (bif roLow kk h.m && againG tt n ops (putF fr (some d) (.ptr h.next 0)) (h.push (.cells e c)) rc then plG call tt g n ops q d e c kk Q false p (putF fr (some d) (.ptr h.next 0)) (h.push (.cells e c)) else .no [g, i, 22])
    else (match callOf n ops i (keepF fr (slotsOf ops i)) with
      | some (g', args, _) => call g' args h fun v h' => bif againG tt n ops (putF fr (dstOf ops i) v) h' rc then plG call tt g n ops q d e c kk Q b p (putF fr (dstOf ops i) v) h' else .no [g, i, 23]
      | none => match stepX false tt n ops i (keepF fr (slotsOf ops i)) h with
        | some (fr1, h') => bif againG tt n ops (putF fr (dstOf ops i) (dstV fr1 (dstOf ops i))) h' rc then plG call tt g n ops q d e c kk Q b p (putF fr (dstOf ops i) (dstV fr1 (dstOf ops i))) h' else .no [g, i, 24]
        | none => match stepG tt n ops i (keepF fr (slotsOf ops i)) h with
          | some (fr1, h') => bif againG tt n ops (putF fr (dstOf ops i) (dstV fr1 (dstOf ops i))) h' rc then plG call tt g n ops q d e c kk Q b p (putF fr (dstOf ops i) (dstV fr1 (dstOf ops i))) h' else .no [g, i, 26]
          | none => .no [g, i, 25])
  | _, .alt _ _, _, _ => .no [g, 26]

variable {P : Program} {tt : TT} {n : Nat} {ops : Array Oper}
theorem slots_o {i : Nat} {o : Oper} (ho : ops[i]? = some o) : slotsOf ops i = oSlots ops o := by simp only [slotsOf, ho]
theorem dst_o {i : Nat} {o : Oper} (ho : ops[i]? = some o) : dstOf ops i = o.dst := by simp only [dstOf, ho]
theorem dstFree_ok {i : Nat} (h : dstFree ops i = true) {d : Nat} (hd : dstOf ops i = some d) : d ∉ slotsOf ops i := by
  unfold dstFree at h
  rw [hd] at h
  simpa using h
theorem stepN_dst {i : Nat} {fr fr1 : Fr} (h : stepN tt n ops i fr = some fr1) : ∃ o, ops[i]? = some o ∧ dstOk n o.dst = true := by
  unfold stepN at h
  split at h
  · rename_i o ho
    cases hd : dstOk n o.dst with
    | false => rw [hd] at h; simp at h
    | true => exact ⟨o, ho, hd⟩
  · cases h
theorem stepR_dst {i : Nat} {fr fr1 : Fr} {h : Heap} (hs : stepR tt n ops i fr h = some fr1) : ∃ o, ops[i]? = some o ∧ dstOk n o.dst = true := by
  unfold stepR at hs
  split at hs
  · rename_i o ho
    cases hd : dstOk n o.dst with
    | false => rw [hd] at hs; simp at hs
    | true => exact ⟨o, ho, hd⟩
  · cases hs
theorem put_self {a : Act} {d : Nat} {u : Value} (hd : d < a.tmps.size) : (a.put (some d) u).tmps.getD d undef = u := by simp [Act.put, hd]
/-- What is looked up in a frame of an operation's slots alone is so in each frame that tells as much. -/
theorem lookG_still (hT : tt.ok P) {i : Nat} {fr fr1 fr' : Fr} {h : Heap} (hl : lookG tt n ops i fr h = some fr1) (hsl : ∀ t ∈ slotsOf ops i, look fr' t = look fr t) (hd : ∀ d, dstOf ops i = some d → look fr' d = look fr1 d) : StillAt P n ops i fr' h := by
  unfold lookG at hl
  cases hf : dstFree ops i <;> rw [hf] at hl
  · cases hl
  · simp only [cond_true] at hl
    split at hl
    · rename_i f2 h2
      cases hl
      obtain ⟨o, ho, hdk⟩ := stepN_dst h2
      refine ⟨o, ho, hdk, fun ρ T w a _ hs => ?_⟩
      have hs2 : SlotRel ρ n fr a (slotsOf ops i) := hs.sub (fun t ht => by rw [← slots_o ho]; exact ht) fun t ht => (hsl t ht).symm
      obtain ⟨o', u, ho', hy, hfr⟩ := stepN_ok (P := P) hT hs2.keep h2
      obtain rfl : o' = o := Option.some.inj (ho'.symm.trans ho)
      refine ⟨u, hy.imp (fun h => ⟨h.1, .inl (h.2 w)⟩) id, fun d hod => ?_⟩
      rw [hd d (by rw [dst_o ho, hod])]
      have := hfr.vals d
      rw [hod, put_self (by rw [hs.size]; rw [hod] at hdk; exact nblt_iff.1 hdk)] at this
      exact this
    · cases hb : isLoad (opAt ops i) <;> rw [hb] at hl
      · cases hl
      · simp only [cond_true] at hl
        obtain ⟨o, ho, hdk⟩ := stepR_dst hl
        refine ⟨o, ho, hdk, fun ρ T w a hR hs => ?_⟩
        have hs2 : SlotRel ρ n fr a (slotsOf ops i) := hs.sub (fun t ht => by rw [← slots_o ho]; exact ht) fun t ht => (hsl t ht).symm
        have hlo : isLoad o.op = true := by simp only [opAt, ho] at hb; exact hb
        obtain ⟨o', u, ho', hy, hfr⟩ := stepR_ok (P := P) hT (k := 0) (T := T) ⟨Nat.zero_le _, hR hlo, hs2.keep⟩ hl
        obtain rfl : o' = o := Option.some.inj (ho'.symm.trans ho)
        refine ⟨u, hy, fun d hod => ?_⟩
        rw [hd d (by rw [dst_o ho, hod])]
        have := hfr.vals d
        rw [hod, put_self (by rw [hs.size]; rw [hod] at hdk; exact nblt_iff.1 hdk)] at this
        exact this
theorem again_still (hT : tt.ok P) {fr : Fr} {h : Heap} : ∀ {l : List Nat}, againG tt n ops fr h l = true → ∀ x ∈ l, StillAt P n ops x fr h
  | y :: l, ha, x, hx => by
    simp only [againG, Bool.and_eq_true] at ha
    rcases List.mem_cons.1 hx with rfl | hx
    · have h1 := ha.1
      split at h1
      · rename_i fr1 hl
        refine lookG_still hT hl (fun t _ => rfl) fun d hd => ?_
        rw [hd] at h1
        exact (sameAV_eq h1).symm
      · cases h1
    · exact again_still hT ha.2 x hx
theorem look_putO {fr : Fr} {dd : Option Nat} {v : AV} {t : Nat} (h : dd ≠ some t) : look (putF fr dd v) t = look fr t := by
  cases dd with
  | none => rfl
  | some d => rw [look_putF, if_neg (fun hh => h (by rw [hh]))]
theorem plG_ok (hT : tt.ok P) {call : RunG α} (hc : CallOkG P call) {g q d : Nat} {e : TypeId} {c : Cs} {kk : List Nat} {Q : Fr → Heap → Rs α} {r : α} : ∀ (pl : Pl) (b : Bool) (fr : Fr) (h : Heap), plG call tt g n ops q d e c kk Q b pl fr h = .ok r →
    plP P n ops q d e c kk (fun fr h => Q fr h = .ok r) b pl fr h
  | .nil, b, fr, h, hr => by simp only [plG] at hr; simp only [plP]; exact hr
  | .alt x y, b, fr, h, hr => by simp [plG] at hr
  | .st i p, b, fr, h, hr => by
    simp only [plG] at hr
    split at hr
    · rename_i fr1 hl
      have hfree : dstFree ops i = true := by
        unfold lookG at hl
        cases hf : dstFree ops i with
        | false => rw [hf] at hl; cases hl
        | true => rfl
      simp only [plP]
      refine ⟨_, ⟨fun t ht => look_putO ht, lookG_still hT hl (fun t ht => ?_) fun d hd => ?_⟩, plG_ok hT hc p b _ h hr⟩
      · refine look_putO fun hh => dstFree_ok hfree hh ht
      · rw [hd, look_putF, if_pos rfl]
        first | rfl | done
    · cases hr
  | .ac i np rc p, b, fr, h, hr => by
    simp only [plG] at hr
    simp only [plP]
    cases hb : (b && Nat.beq i q) <;> rw [hb] at hr
    · simp only [cond_false] at hr ⊢
      split at hr
      · rename_i g' args d' hcall
        unfold callOf at hcall
        split at hcall
        · rename_i o ho
          split at hcall
          · rename_i cl hop
            split at hcall
            · rename_i x hcx
              split at hcall
              · rename_i g2 first cap hx
                cases hd : dstOk n o.dst <;> rw [hd] at hcall
                · cases hcall
                · simp only [cond_true] at hcall
                  split at hcall
                  · rename_i hw
                    simp only [Option.some.injEq, Prod.mk.injEq] at hcall
                    obtain ⟨rfl, hargs, rfl⟩ := hcall
                    refine ⟨o, ho, hd, rplan_callE ho hop hcx hw hd hx hargs (hc _ _ _ _ _ hr) fun v h' hv => rplan_nil ?_⟩
                    have e1 : putF fr o.dst (dstV (putF (keepF fr (slotsOf ops i)) o.dst v) o.dst) = putF fr (dstOf ops i) v := by
                      rw [dst_o ho]
                      cases o.dst with
                      | none => rfl
                      | some dd => simp only [dstV]; rw [look_putF, if_pos rfl]
                    rw [e1]
                    cases hag : againG tt n ops (putF fr (dstOf ops i) v) h' rc <;> simp only [hag] at hv
                    · cases hv
                    · exact ⟨again_still hT hag, plG_ok hT hc p b _ h' hv⟩
                  · cases hcall
              · cases hcall
            · cases hcall
          · cases hcall
        · cases hcall
      · split at hr
        · rename_i fr1 h' hs
          have hdk : ∃ o, ops[i]? = some o ∧ dstOk n o.dst = true := by
            unfold stepX at hs
            split at hs
            · rename_i f2 h2; exact stepR_dst h2
            · split at hs
              · rename_i o ho
                cases hd : dstOk n o.dst with
                | false => rw [hd] at hs; simp at hs
                | true => exact ⟨o, ho, hd⟩
              · cases hs
          obtain ⟨o, ho, hd⟩ := hdk
          refine ⟨o, ho, hd, rplan_xx hT false hs (rplan_nil ?_)⟩
          rw [← dst_o ho]
          cases hag : againG tt n ops (putF fr (dstOf ops i) (dstV fr1 (dstOf ops i))) h' rc <;> rw [hag] at hr
          · cases hr
          · exact ⟨again_still hT hag, plG_ok hT hc p b _ h' hr⟩
        · split at hr
          · rename_i fr1 h' hs
            have hdk : ∃ o, ops[i]? = some o ∧ dstOk n o.dst = true := by
              unfold stepG at hs
              split at hs
              · rename_i o ho
                cases hd : dstOk n o.dst with
                | false => rw [hd] at hs; simp at hs
                | true => exact ⟨o, ho, hd⟩
              · cases hs
            obtain ⟨o, ho, hd⟩ := hdk
            refine ⟨o, ho, hd, rplan_gg hT hs (rplan_nil ?_)⟩
            rw [← dst_o ho]
            cases hag : againG tt n ops (putF fr (dstOf ops i) (dstV fr1 (dstOf ops i))) h' rc <;> rw [hag] at hr
            · cases hr
            · exact ⟨again_still hT hag, plG_ok hT hc p b _ h' hr⟩
          · cases hr
    · simp only [cond_true] at hr ⊢
      cases hag : (roLow kk h.m && againG tt n ops (putF fr (some d) (.ptr h.next 0)) (h.push (.cells e c)) rc) <;> rw [hag] at hr
      · cases hr
      · simp only [Bool.and_eq_true] at hag
        exact ⟨hag.1, again_still hT hag.2, plG_ok hT hc p false _ _ hr⟩

theorem findQ_some : ∀ {l : List Nat} {q d : Nat} {e : TypeId}, findQ ops l = some (q, d, e) → qAt ops q = some (d, e)
  | i :: l, q, d, e, h => by
    simp only [findQ] at h
    split at h
    · rename_i d' e' hq
      cases h; exact hq
    · exact findQ_some h
theorem qAt_ok (hT : tt.ok P) {q d : Nat} {e : TypeId} {ti : TI} (h : qAt ops q = some (d, e)) (hd : Nat.blt d n = true) (hti : tt e = some ti) : AH P n ops q d e ti.zero.toArray (zeroC ti) := by
  unfold qAt at h
  split at h
  · rename_i o ho
    split at h
    · rename_i e' d' h1 h2 h3
      cases hc : (noEdges o && (List.range ops.size).all (fun j => Nat.beq j q || (match dstOf ops j with | some d'' => !Nat.beq d'' d' | none => true))) <;> rw [hc] at h
      · cases h
      · simp only [cond_true, Option.some.injEq, Prod.mk.injEq] at h
        obtain ⟨rfl, rfl⟩ := h
        simp only [Bool.and_eq_true, List.all_eq_true, List.mem_range, Bool.or_eq_true] at hc
        refine ⟨⟨o, ho, h1, h2, h3⟩, nblt_iff.1 hd, fun j => ?_, fun i hi hh => ?_, fun w => ?_, ?_, fun ρ => ?_⟩
        · cases hx : hasEdge ops q j with
          | false => rfl
          | true =>
            simp only [hasEdge, ho, List.any_eq_true, Bool.and_eq_true] at hx
            obtain ⟨ed, he, hb, _⟩ := hx
            have h4 := hc.1
            simp only [noEdges, List.all_eq_true, Bool.not_eq_true'] at h4
            have := h4 ed he
            rw [hb] at this; cases this
        · have hlt : i < ops.size := by
            rcases Nat.lt_or_ge i ops.size with h' | h'
            · exact h'
            · simp [dstOf, Array.getElem?_eq_none h'] at hh
          rcases hc.2 i hlt with h5 | h5
          · exact hi (Nat.eq_of_beq_eq_true h5)
          · rw [hh] at h5; simp at h5
        · obtain ⟨z, hz, hzc⟩ := run_zeroValue (P := P) hT hti w
          have : z.cells = ti.zero.toArray := by rw [← hzc]
          simp [Instr.alloc, hz, newVar, newRow, this]
        · unfold zeroC
          cases Nat.blt 40 ti.zero.length <;> simp [Cs.size, toAV]
        · have hlr : LRel ρ (toAV ti.zero) ti.zero := LRel.lits _
          unfold zeroC
          cases Nat.blt 40 ti.zero.length with
          | false => simpa using CRel.av hlr
          | true =>
            have := CRel.tr_leaf hlr
            have hl : (toAV ti.zero).length = ti.zero.length := by simp [toAV]
            rw [hl] at this; simpa using this
    · cases h
  · cases h
theorem roCur_get {m : HM} {i : Nat} (h : i ∈ roCur m) : ∃ c, HM.get m i = some (.ro c) ∧ 0 < c.size := by
  have := (List.mem_filter.1 h).2
  split at this
  · rename_i c hc
    exact ⟨c, hc, nblt_iff.1 this⟩
  · cases this
/-- Such a region, run by its plan. -/
theorem awp_float (hm : P.follows .mixedOrders = true) {q d : Nat} {e : TypeId} {z : Array Value} {c : Cs} (hA : AH P n ops q d e z c) {k : Nat} {id : Nat} {pl : Pl} (hok : okB ops q true pl [] (none0 ops) = true) (hdn : edgesDown ops = true) {fr : Fr} {h : Heap} {Q : Exit → Fr → Heap → Prop}
    (hv : plP P n ops q d e c (roCur h.m) (Q .normal) true pl (putF fr (some d) .any) h) : AWp P k n (.region id ops true) Q fr h := by
  intro ρ T w a hs
  have hz : ∀ i, (none0 ops).getD i false = false := fun i => by
    unfold none0
    by_cases h : i < ops.size <;> simp [h]
  have hR := hs.rel.drew
  have hkk : ∀ i ∈ roCur h.m, i < h.next ∧ ∀ a, ρ i = some a → a.blk < w.drew.heap.size := fun i hi => by
    obtain ⟨c1, hc, hpos⟩ := roCur_get hi
    obtain ⟨S, h1, h2, h3, h4, h5⟩ := hR
    obtain ⟨a1, ha, ho⟩ := h1 i _ hc
    refine ⟨?_, fun a2 ha2 => ?_⟩
    · rcases Nat.lt_or_ge i h.next with h' | h'
      · exact h'
      · rw [h4 i h'] at ha; cases ha
    · obtain rfl : a2 = a1 := Option.some.inj (ha2.symm.trans ha)
      rcases ho with h0 | ⟨_, arr, e1, f1, hb, _⟩
      · omega
      · exact (Array.getElem?_eq_some_iff.1 hb).1
  have hf : FrRel ρ n (putF fr (some d) .any) a := hs.fr.same fun t => by
    rw [look_putF]
    by_cases ht : t = d
    · rw [if_pos ht]; exact .inr rfl
    · rw [if_neg ht]; exact .inl rfl
  have J : JE P n ops q d e c (roCur h.m) (putF fr (some d) .any) h.next (Q .normal) ρ T w.drew true pl [] [] (none0 ops) (putF fr (some d) .any) h ρ (none0 ops) a w.drew :=
    ⟨hok, by simp [none0], by simp [none0], (fun i hi => by cases hi), (fun i hi => by cases hi), (fun i hi => by cases hi), (fun i => by rw [hz]; simp), (fun i j hi _ => by rw [hz] at hi; cases hi), (fun i j hi _ => by rw [hz] at hi; cases hi), (fun _ _ => rfl), Keeps.refl _ _, Nat.le_refl _, hR, hf, (fun p hp => by cases hp), hv, (fun _ _ => rfl), (fun _ => by rw [look_putF, if_pos rfl]), (fun _ => hz q)⟩
  have := wp_region_any (id := id) (Q := rpost h.next n ρ T w.drew (endQ ops (putF fr (some d) .any) (Q .normal))) hm ((wpAny_E hA hdn hkk ops.size).1 J (Nat.le_trans List.countP_le_length (by simp)))
  refine wp_mono this fun e a' w' hh => ?_
  cases e <;> first
    | (obtain ⟨ρ', fr', h', b1, b2, b3, b4⟩ := hh; exact ⟨ρ', fr', h', fun i hi => b1 i (Nat.lt_of_lt_of_le hi hs.le), ⟨Nat.le_trans hs.le b2.le, b2.rel, b2.fr⟩, (Keeps.drew T w).trans b3, b4.2⟩)
    | exact hh.elim

theorem awp_plain (hm : P.follows .mixedOrders = true) {q d : Nat} {e : TypeId} {c : Cs} {kk : List Nat} {k : Nat} {id : Nat} {pl : Pl} (hok : okB ops q false pl [] (none0 ops) = true) (hdn : edgesDown ops = true) {fr : Fr} {h : Heap} {Q : Exit → Fr → Heap → Prop}
    (hv : plP P n ops q d e c kk (Q .normal) false pl fr h) : AWp P k n (.region id ops true) Q fr h := by
  intro ρ T w a hs
  have hz : ∀ i, (none0 ops).getD i false = false := fun i => by
    unfold none0
    by_cases h : i < ops.size <;> simp [h]
  have J : JE P n ops q d e c kk fr h.next (Q .normal) ρ T w.drew false pl [] [] (none0 ops) fr h ρ (none0 ops) a w.drew :=
    ⟨hok, by simp [none0], by simp [none0], (fun i hi => by cases hi), (fun i hi => by cases hi), (fun i hi => by cases hi), (fun i => by rw [hz]; simp), (fun i j hi _ => by rw [hz] at hi; cases hi), (fun i j hi _ => by rw [hz] at hi; cases hi), (fun _ _ => rfl), Keeps.refl _ _, Nat.le_refl _, hs.rel.drew, hs.fr, (fun p hp => by cases hp), hv, (fun _ _ => rfl), (fun hb => by cases hb), (fun hb => by cases hb)⟩
  have := wp_region_any (id := id) (Q := rpost h.next n ρ T w.drew (endQ ops fr (Q .normal))) hm (wpAny_N hdn ops.size J (Nat.le_trans List.countP_le_length (by simp)))
  refine wp_mono this fun e a' w' hh => ?_
  cases e <;> first
    | (obtain ⟨ρ', fr', h', b1, b2, b3, b4⟩ := hh; exact ⟨ρ', fr', h', fun i hi => b1 i (Nat.lt_of_lt_of_le hi hs.le), ⟨Nat.le_trans hs.le b2.le, b2.rel, b2.fr⟩, (Keeps.drew T w).trans b3, b4.2⟩)
    | exact hh.elim
theorem plainOf_some {pl : Pl} (h : plainOf ops = some pl) : okB ops ops.size false pl [] (none0 ops) = true ∧ edgesDown ops = true := by
  unfold plainOf at h
  simp only at h
  cases hb : (okB ops ops.size false (planE ops ops.size (ops.size + 1) [] (none0 ops)) [] (none0 ops) && edgesDown ops) <;> rw [hb] at h
  · cases h
  · simp only [cond_true, Option.some.injEq] at h
    subst h
    simpa only [Bool.and_eq_true] using hb
/-! ### Code, and functions -/
section
variable {α : Type}
def codeH (call : RunG α) (tt : TT) (g n : Nat) : Nat → Code → (Exit → Fr → Heap → Rs α) → Fr → Heap → Rs α
  | 0, _, _, _, _ => .no [g, 5]
  | _ + 1, .skip, Q, fr, h => Q .normal fr h
  | _ + 1, .ret, Q, fr, h => Q .ret fr h
  | _ + 1, .exit id, Q, fr, h => Q (.exit id) fr h
  | _ + 1, .label _, Q, fr, h => Q .normal fr h
  | f + 1, .scope x, Q, fr, h => codeH call tt g n f x Q fr h
  | f + 1, .seq x y, Q, fr, h => codeH call tt g n f x (fun e fr' h' => match e with
    | .normal => codeH call tt g n f y Q fr' h'
    | e => Q e fr' h') fr h
  | f + 1, .cond c x y, Q, fr, h => match evA fr c with
    | .lit (.bool b) => bif b then codeH call tt g n f x Q fr h else codeH call tt g n f y Q fr h
    | _ => .no [g, 6]
  | f + 1, .block id x, Q, fr, h => codeH call tt g n f x (fun e fr' h' => match e with
    | .exit id' => bif Nat.beq id' id then Q .normal fr' h' else Q (.exit id') fr' h'
    | e => Q e fr' h') fr h
  | f + 1, .loop x, Q, fr, h => codeH call tt g n f x (fun e fr' h' => match e with
    | .normal => codeH call tt g n f (.loop x) Q fr' h'
    | e => Q e fr' h') fr h
  | _ + 1, .region id ops draw, Q, fr, h => match planFor ops draw with
    | some pl => opsG call tt (1000 * g + id) n ops (Q .normal) pl fr h
    | none => bif draw then (match plainOf ops with
     | some pl => plG call tt (1000 * g + id) n ops ops.size 0 0 (.av []) [] (Q .normal) false pl fr h
     | none => match floatOf ops with
      | some (q, d, e, pl) => match tt e with
        | some ti => bif Nat.blt d n then plG call tt (1000 * g + id) n ops q d e (zeroC ti) (roCur h.m) (Q .normal) true pl (putF fr (some d) .any) h else .no [g, id, 31]
        | none => .no [g, id, 32]
      | none => .no [g, id, 7]) else .no [g, id, 33]
  | _ + 1, _, _, _, _ => .no [g, 8]
def runH (P : Program) (xt : XTbl) (tt : TT) (fuel : Nat) : Nat → RunG α
  | 0, g, _, _, _ => .no [g, 9]
  | d + 1, g, args, h, K => match lookX xt g with
    | some T => match T args h with
      | some (v, h') => K v h'
      | none => .no [g, 10]
    | none => match P.funcs[g]? with
      | some fn => match fn.body with
        | some c => bif !(fn.name == "runtime.NumGoroutine") && Nat.ble args.length fn.ntmps then codeH (runH P xt tt fuel d) tt g fn.ntmps fuel c (fun e fr' h' => bif isDone e then (match retA tt fn fr' h' with
            | some v => K v h'
            | none => .no [g, 11]) else .no [g, 12]) (entryF args) h else .no [g, 13]
        | none => .no [g, 14]
      | none => .no [g, 15]
theorem floatOf_some {q d : Nat} {e : TypeId} {pl : Pl} (h : floatOf ops = some (q, d, e, pl)) : qAt ops q = some (d, e) ∧ okB ops q true pl [] (none0 ops) = true ∧ edgesDown ops = true := by
  unfold floatOf at h
  split at h
  · rename_i q' d' e' hq
    simp only at h
    cases hb : (okB ops q' true (planE ops q' (ops.size + 1) [] (none0 ops)) [] (none0 ops) && edgesDown ops) <;> rw [hb] at h
    · cases h
    · simp only [cond_true, Option.some.injEq, Prod.mk.injEq] at h
      obtain ⟨rfl, rfl, rfl, rfl⟩ := h
      simp only [Bool.and_eq_true] at hb
      exact ⟨findQ_some hq, hb.1, hb.2⟩
  · cases h
theorem codeH_ok (hT : tt.ok P) (hm : P.follows .mixedOrders = true) {k : Nat} {call : RunG α} (hc : CallOkG P call) {g : Nat} {r : α} : ∀ (N f : Nat), f ≤ N → ∀ (c : Code) (Q : Exit → Fr → Heap → Rs α) (fr : Fr) (h : Heap), codeH call tt g n f c Q fr h = .ok r → AWp P k n c (fun e fr h => Q e fr h = .ok r) fr h := by
  intro N
  induction N with
  | zero => intro f hf c Q fr h hr; have : f = 0 := by omega
            subst this; simp [codeH] at hr
  | succ N ih =>
    intro f hf c Q fr h hr
    cases f with
    | zero => simp [codeH] at hr
    | succ f =>
      have hfN : f ≤ N := by omega
      cases c with
      | skip => exact awp_skip hr
      | ret => exact awp_ret hr
      | exit id => exact awp_exit hr
      | label l => exact awp_label hr
      | scope x => exact awp_scope (ih f hfN x Q fr h hr)
      | seq x y =>
        simp only [codeH] at hr
        refine awp_seq ((ih f hfN x _ fr h hr).mono fun e fr1 h1 hh => ?_)
        cases e with
        | normal => exact ih f hfN y Q fr1 h1 hh
        | _ => exact hh
      | cond c x y =>
        simp only [codeH] at hr
        split at hr
        · rename_i b hb
          refine awp_cond hb (fun ht => ?_) (fun hf => ?_)
          · subst ht; exact ih f hfN x Q fr h hr
          · subst hf; exact ih f hfN y Q fr h hr
        · cases hr
      | block id x =>
        simp only [codeH] at hr
        refine awp_block ((ih f hfN x _ fr h hr).mono fun e fr1 h1 hh => ?_)
        cases e with
        | exit id' =>
          simp only [blockA]
          cases hb : Nat.beq id' id <;> simp only [hb, cond_true, cond_false] at hh
          · have : id' ≠ id := fun he => by subst he; rw [Nat.beq_refl] at hb; cases hb
            rw [if_neg this]; exact hh
          · rw [if_pos (Nat.eq_of_beq_eq_true hb)]; exact hh
        | _ => exact hh
      | loop x =>
        refine awp_loop (fun m fr h => m ≤ f + 1 ∧ codeH call tt g n m (.loop x) Q fr h = .ok r) (m := f + 1) ⟨Nat.le_refl _, hr⟩ ?_
        rintro m fr2 h2 ⟨hm', hr2⟩
        cases m with
        | zero => simp [codeH] at hr2
        | succ m =>
          simp only [codeH] at hr2
          refine (ih m (by omega) x _ fr2 h2 hr2).mono fun e fr3 h3 hh => ?_
          cases e with
          | normal => exact ⟨m, by omega, by omega, hh⟩
          | _ => exact hh
      | region id ops draw =>
        simp only [codeH] at hr
        split at hr
        · rename_i pl hpl
          cases draw with
          | false =>
            simp only [planFor, cond_false, Option.some.injEq] at hpl
            exact awp_region hpl (opsG_ok hT hc pl fr h hr)
          | true =>
            simp only [planFor, cond_true] at hpl
            cases hok : (Region.noSelect ops && planOk ops (planOf ops) (Array.replicate ops.size false) && decide (planLen (planOf ops) ≤ ops.size)) <;> rw [hok] at hpl
            · cases hpl
            · cases hpl
              exact awp_draw hm hok (opsG_ok hT hc _ fr h hr)
        · cases draw with
          | false => cases hr
          | true =>
            simp only [cond_true] at hr
            split at hr
            · rename_i pl hpl
              obtain ⟨h2, h3⟩ := plainOf_some hpl
              exact awp_plain hm h2 h3 (plG_ok (P := P) hT hc pl false _ h hr)
            · split at hr
              · rename_i q d e pl hfl
                obtain ⟨h1, h2, h3⟩ := floatOf_some hfl
                split at hr
                · rename_i ti hti
                  cases hd : Nat.blt d n <;> rw [hd] at hr
                  · cases hr
                  · exact awp_float hm (qAt_ok (P := P) (n := n) hT h1 hd hti) h2 h3 (plG_ok (P := P) hT hc pl true _ h hr)
                · cases hr
              · cases hr
      | _ => simp [codeH] at hr
theorem runH_sp (hT : tt.ok P) (hm : P.follows .mixedOrders = true) {xt : XTbl} {fuel d : Nat} (ih : CallOkG P (runH (α := α) P xt tt fuel d)) {g : FuncId} {args : List AV} {h : Heap} {K : AV → Heap → Rs α} {a : α} (hl : lookX xt g = none) (hr : runH P xt tt fuel (d + 1) g args h K = .ok a) :
    Sp P g args h (fun v h' => K v h' = .ok a) := by
  simp only [runH, hl] at hr
  split at hr
  · rename_i fn hf
    split at hr
    · rename_i c hb
      cases hcnd : (!(fn.name == "runtime.NumGoroutine") && Nat.ble args.length fn.ntmps) <;> rw [hcnd] at hr
      · cases hr
      · simp only [cond_true] at hr
        simp only [Bool.and_eq_true, Bool.not_eq_true'] at hcnd
        refine spec_of_awp hT hf hcnd.1 hb hcnd.2 ((codeH_ok hT hm ih fuel fuel (Nat.le_refl _) c _ _ h hr).mono fun e fr2 h2 hh => ?_)
        cases hd : isDone e <;> rw [hd] at hh
        · cases hh
        · simp only [cond_true] at hh
          split at hh
          · rename_i v2 hv
            refine ⟨?_, _, hv, hh⟩
            cases e <;> first | exact .inl rfl | exact .inr rfl | cases hd
          · cases hh
    · cases hr
  · cases hr
theorem runH_ok (hT : tt.ok P) (hm : P.follows .mixedOrders = true) {xt : XTbl} (hx : XOk' P xt) (fuel : Nat) : ∀ d, CallOkG P (runH (α := α) P xt tt fuel d)
  | 0 => by intro g args h K a hr; simp [runH] at hr
  | d + 1 => by
    intro g args h K a hr
    cases hl : lookX xt g with
    | none => exact .inl (runH_sp hT hm (runH_ok hT hm hx fuel d) hl hr)
    | some T =>
      simp only [runH, hl] at hr
      split at hr
      · rename_i v h' hv
        rcases hx g T hl args h v h' hv with hs | hs
        · exact .inl (hs.mono (by rintro _ _ ⟨rfl, rfl⟩; exact hr))
        · refine .inr fun ρ T w vs hR hl => ?_
          obtain ⟨v1, h1, u, w', ρ', r1, r2, r3, r4, r5, r6, r7, rfl, rfl⟩ := hs ρ T w vs hR hl
          exact ⟨_, _, u, w', ρ', r1, r2, r3, r4, r5, r6, r7, hr⟩
      · cases hr
theorem runH_top (hT : tt.ok P) (hm : P.follows .mixedOrders = true) {xt : XTbl} (hx : XOk' P xt) (fuel : Nat) : ∀ (d : Nat) (g : FuncId) (args : List AV) (h : Heap) (K : AV → Heap → Rs α) (a : α), lookX xt g = none → runH P xt tt fuel d g args h K = .ok a → Sp P g args h (fun v h' => K v h' = .ok a)
  | 0, g, args, h, K, a, _, hr => by simp [runH] at hr
  | d + 1, g, args, h, K, a, hl, hr => runH_sp hT hm (runH_ok hT hm hx fuel d) hl hr
end
end
end Go.Proofs.YtlocaplkfaepnaaGreat.SE
end
section
/- Closed calls, run in stages: the memory between two of them is written down. -/
namespace Go.Proofs.YtlocaplkfaepnaaGreat.SE
open Go
theorem objSub_of {τ : Nat → Nat} {n : Nat} {h : Heap} : ∀ (os : List AObj) (i : Nat), (∀ j o, os[j]? = some o → h.get (τ (i + j)) = some (omap τ o) ∧ obelow n o = true) → ObjSub τ n h i os
  | [], _, _ => trivial
  | o :: os, i, hh => ⟨⟨_, (hh 0 o rfl).1, soft_map (hh 0 o rfl).2⟩, objSub_of os (i + 1) fun j o' hj => by
    have := hh (j + 1) o' (by simpa using hj)
    rwa [show i + (j + 1) = i + 1 + j by omega] at this⟩
/-- Short words. -/
def bs (l : List Nat) : ByteArray := ⟨(l.map UInt8.ofNat).toArray⟩
def b8 (n : Int) : AV := .lit (.int .u8 n)
def v8 (n : Int) : Value := .int .u8 n
/-- What a stage hands on. -/
def told (ids : List Nat) (v : AV) (h : Heap) : Rs (AV × List (Option AObj)) := .ok (v, ids.map h.get)
theorem stage {P : Program} {tt : TT} (hT : tt.ok P) (hm : P.follows .mixedOrders = true) {xt : XTbl} (hx : XOk' P xt) (fuel d : Nat) {g : FuncId} {args : List AV} {h : Heap} (m : Nat) (ids : List Nat) (v0 : AV) (os : List AObj)
    (hl : lookX xt g = none) (hr : runH P xt tt fuel d g args h (told ids) = .ok (vmap (atL ids) v0, os.map fun o => some (omap (atL ids) o)))
    (hb : (Nat.beq os.length m && idsOk h.next ids m && os.all (obelow m) && vbelow m v0) = true) : Sp P g args h (fun v h' => v = v0 ∧ h' = hO m os) := by
  simp only [Bool.and_eq_true, List.all_eq_true] at hb
  obtain ⟨⟨⟨b1, b2⟩, b3⟩, b4⟩ := hb
  have b1 := Nat.eq_of_beq_eq_true b1
  refine sp_leq ((runH_top hT hm hx fuel d g args h (told ids) _ hl hr).mono fun v h' hk => ⟨v0, hO m os, ?_, rfl, rfl⟩)
  simp only [told, Rs.ok.injEq, Prod.mk.injEq] at hk
  obtain ⟨k1, k2⟩ := hk
  refine leq_sub m ids os b1 b2 (objSub_of os 0 fun j o hj => ⟨?_, b3 o (List.mem_of_getElem? hj)⟩) k1.symm b4
  have e := congrArg (fun l => l[j]?) k2
  simp only [List.getElem?_map, hj, Option.map_some] at e
  cases hi : ids[j]? with
  | none => rw [hi] at e; cases e
  | some i =>
    rw [hi] at e
    simp only [Option.map_some, Option.some.injEq] at e
    rw [Nat.zero_add]
    have : atL ids j = i := by simp [atL, List.getD_eq_getElem?_getD, hi]
    rw [this]; exact e
end Go.Proofs.YtlocaplkfaepnaaGreat.SE
end
section
/- Closed calls, run in stages: the memory between two of them lies behind one name. -/
namespace Go.Proofs.YtlocaplkfaepnaaGreat.SE
open Go
def memIs (m : Nat) (os : List AObj) : Heap → Prop := fun h => h = hO m os
/-- Memory, packed. -/
def packed (m : Nat) (os : List AObj) : AObj := .abs (mkOwn (memIs m os))
theorem noRoT {ρ : Ren} {w : World} {T T' : Nat → Prop} {a : Loc} {S : Nat → Prop} {o : AObj} (h : OHolds ρ w T a S o) (hr : isRo o = false) : OHolds ρ w T' a S o := by
  cases o with
  | ro c => cases hr
  | _ => exact h
theorem sp_unpack {P : Program} {f : FuncId} {args : List AV} {m : Nat} {os : List AObj} {K : AV → Heap → Prop} (hl : lmap (fun i => i) args = args) (hb : lbelow 1 args = true)
    (hs : Sp P f args (hO m os) (fun v h' => ∃ v' h'', Leq 1 v h' v' h'' ∧ K v' h'')) : Sp P f args (hO 1 [packed m os]) K := by
  refine ⟨hs.1, fun ρ T w vs hR hvs => ?_⟩
  obtain ⟨S, h1, h2, h3, h4, h5⟩ := hR
  obtain ⟨a, ha, h0, ρ0, hΦ, hpos, hro, hρ, S0, g1, g2, g3, g4⟩ := h1 0 _ rfl
  unfold memIs at hΦ
  subst hΦ
  have R0 : Rel (hO m os) ρ0 T w := ⟨S0, fun i o hi => by
    obtain ⟨b, hb, ho⟩ := g1 i o hi
    exact ⟨b, hb, noRoT ho (hro i o hi)⟩, g2, fun i o b hi hS => ⟨(h3 0 _ b rfl (g3 i o b hi hS).1).1, (g3 i o b hi hS).2⟩, g4, h5⟩
  have hv0 : LRel ρ0 args vs.toList := LRel.lback (τ := fun i => i) (ρ' := ρ) (n := 1) (fun i hi => by
    obtain rfl : i = 0 := by omega
    rw [hρ]; exact ha.symm) args _ hb (by rw [hl]; exact hvs)
  refine (hs.2 ρ0 T w vs R0 hv0).mono ?_
  rintro e w' ⟨ρ2, v, u, h', c1, c2, c3, c4, c5, c6, v', h'', hq, hK⟩
  obtain ⟨ρ3, q1, q2, q3⟩ := hq.2 ρ2 T w' u c3 c4
  refine ⟨ρ3, v', u, h'', fun i hi => ?_, hq.1, q2, q3, c5, c6, hK⟩
  obtain rfl : i = 0 := by simp [hO] at hi; omega
  rw [q1 0 (by omega), c1 0 hpos, hρ, ha]
theorem leq_pack {v : AV} {m : Nat} {os : List AObj} (hlen : os.length = m) (h0 : 0 < m) (hro : ∀ (i : Nat) (o : AObj), os[i]? = some o → isRo o = false) (hl : vmap (fun i => i) v = v) (hb : vbelow 1 v = true) : Leq 1 v (hO m os) v (hO 1 [packed m os]) := by
  refine ⟨Nat.le_refl _, fun ρ T w u hR hv => ?_⟩
  obtain ⟨S, h1, h2, h3, h4, h5⟩ := hR
  obtain ⟨o0, ho0⟩ : ∃ o : AObj, os[0]? = some o := ⟨os[0]'(by omega), List.getElem?_eq_getElem _⟩
  obtain ⟨a, ha, _⟩ := h1 0 o0 (by rw [hO_get hlen]; exact ho0)
  refine ⟨fun i => if i < 1 then ρ i else none, fun i hi => by simp [hi], ⟨fun i b => i = 0 ∧ ∃ (j : Nat) (o : AObj), os[j]? = some o ∧ S j b, fun i o hi => ?_, fun i j o o' b hi hj hij hSi hSj => hij (hSi.1.trans hSj.1.symm), fun i o b hi hS => ?_, fun i hi => ?_, h5⟩, ?_⟩
  · rw [hO_get (n := 1) (os := [packed m os]) rfl] at hi
    match i, hi with
    | 0, hi =>
      cases hi
      refine ⟨a, by simpa using ha, hO m os, ρ, rfl, h0, fun i o hi => hro i o (by rw [hO_get hlen] at hi; exact hi), ha, S, fun i o hi => ?_, h2, fun i o b hi hS => ⟨⟨rfl, i, o, by rw [hO_get hlen] at hi; exact hi, hS⟩, (h3 i o b hi hS).2⟩, h4⟩
      obtain ⟨x, hx, hh⟩ := h1 i o hi
      exact ⟨x, hx, noRoT hh (hro i o (by rw [hO_get hlen] at hi; exact hi))⟩
  · obtain ⟨_, j, o', hj, hS⟩ := hS
    exact h3 j o' b (by rw [hO_get hlen]; exact hj) hS
  · simp [hO] at hi; simp; omega
  · exact VRel.vback (τ := fun i => i) (ρ' := ρ) (n := 1) (fun i hi => by simp [hi]) v u hb (by rw [hl]; exact hv)
/-- A stage: memory packed ahead of it, and behind it. -/
theorem stageP {P : Program} {tt : TT} (hT : tt.ok P) (hm : P.follows .mixedOrders = true) {xt : XTbl} (hx : XOk' P xt) (fuel d : Nat) {g : FuncId} {args : List AV} (m0 : Nat) (os0 : List AObj) (m : Nat) (ids : List Nat) (v0 : AV) (os : List AObj)
    (hl : lookX xt g = none) (hr : runH P xt tt fuel d g args (hO m0 os0) (told ids) = .ok (vmap (atL ids) v0, os.map fun o => some (omap (atL ids) o)))
    (hb : (Nat.beq os.length m && Nat.blt 0 m && idsOk 1 ids m && os.all (obelow m) && vbelow 1 v0 && os.all (fun o => !isRo o) && lbelow 1 args && vbelow m v0) = true) (ha : lmap (fun i => i) args = args) (hv : vmap (fun i => i) v0 = v0) :
    Sp P g args (hO 1 [packed m0 os0]) (fun v h' => v = v0 ∧ h' = hO 1 [packed m os]) := by
  simp only [Bool.and_eq_true, List.all_eq_true] at hb
  obtain ⟨⟨⟨⟨⟨⟨⟨b1, b2⟩, b3⟩, b4⟩, b5⟩, b6⟩, b7⟩, b8⟩ := hb
  have b1 := Nat.eq_of_beq_eq_true b1
  have b2 : 0 < m := nblt_iff.1 b2
  refine sp_unpack ha b7 ((runH_top hT hm hx fuel d g args (hO m0 os0) (told ids) _ hl hr).mono fun v h' hk => ⟨v0, hO 1 [packed m os], ?_, rfl, rfl⟩)
  simp only [told, Rs.ok.injEq, Prod.mk.injEq] at hk
  obtain ⟨k1, k2⟩ := hk
  refine (leq_sub m ids os b1 b3 (objSub_of os 0 fun j o hj => ⟨?_, b4 o (List.mem_of_getElem? hj)⟩) k1.symm b8).trans (leq_pack b1 b2 (fun i o hi => by simpa using b6 o (List.mem_of_getElem? hi)) hv b5)
  have e := congrArg (fun l => l[j]?) k2
  simp only [List.getElem?_map, hj, Option.map_some] at e
  cases hi : ids[j]? with
  | none => rw [hi] at e; cases e
  | some i =>
    rw [hi] at e
    simp only [Option.map_some, Option.some.injEq] at e
    rw [Nat.zero_add]
    have : atL ids j = i := by simp [atL, List.getD_eq_getElem?_getD, hi]
    rw [this]; exact e
/-- The first stage: no memory ahead of it. -/
theorem stageN {P : Program} {g : FuncId} {args : List AV} {m : Nat} {v0 : AV} {os : List AObj} (hs : Sp P g args (hO 0 []) (fun v h' => v = v0 ∧ h' = hO m os))
    (hb : (Nat.beq os.length m && Nat.blt 0 m && vbelow 1 v0 && os.all (fun o => !isRo o)) = true) (hv : vmap (fun i => i) v0 = v0) : Sp P g args (hO 0 []) (fun v h' => v = v0 ∧ h' = hO 1 [packed m os]) := by
  simp only [Bool.and_eq_true, List.all_eq_true] at hb
  obtain ⟨⟨⟨b1, b2⟩, b5⟩, b6⟩ := hb
  refine sp_leq (hs.mono fun v h' hk => ⟨v0, hO 1 [packed m os], ?_, rfl, rfl⟩)
  obtain ⟨rfl, rfl⟩ := hk
  have h := leq_pack (Nat.eq_of_beq_eq_true b1) (nblt_iff.1 b2) (fun i o hi => by simpa using b6 o (List.mem_of_getElem? hi)) hv b5
  exact ⟨Nat.zero_le _, fun ρ T w u hR hvr => by
    obtain ⟨ρ', q1, q2, q3⟩ := h.2 ρ T w u hR hvr
    exact ⟨ρ', fun i hi => absurd hi (by simp [hO]), q2, q3⟩⟩
end Go.Proofs.YtlocaplkfaepnaaGreat.SE
end
section
/- Closed calls, run in stages: memory behind one name, and objects beside it. -/
namespace Go.Proofs.YtlocaplkfaepnaaGreat.SE
open Go
theorem dropL_get_not : ∀ (l : List Nat) (h : Heap) (j : Nat), j ∉ l → (dropL l h).get j = h.get j
  | [], _, _, _ => rfl
  | i :: l, h, j, hj => by
    simp only [List.mem_cons, not_or] at hj
    show (dropL l (h.drop i)).get j = h.get j
    rw [dropL_get_not l _ j hj.2, Heap.get_drop, if_neg hj.1]
theorem ownFit_of {τ : Nat → Nat} {n : Nat} {h : Heap} : ∀ (os : List AObj) (i : Nat), (∀ j o, os[j]? = some o → obelow n o = true ∧ isRo o = false ∧ h.get (τ (i + j)) = some (omap τ o)) → OwnFit τ n h i os
  | [], _, _ => trivial
  | o :: os, i, hh => ⟨hh 0 o rfl, ownFit_of os (i + 1) fun j o' hj => by
    have := hh (j + 1) o' (by simpa using hj)
    rwa [show i + (j + 1) = i + 1 + j by omega] at this⟩
/-- What a stage hands on: of packed objects, of those beside them. -/
def told2 (A F : List Nat) (v : AV) (h : Heap) : Rs (AV × List (Option AObj) × List (Option AObj) × Nat) := .ok (v, A.map h.get, F.map h.get, h.next)
theorem stageQ {P : Program} {tt : TT} (hT : tt.ok P) (hm : P.follows .mixedOrders = true) {xt : XTbl} (hx : XOk' P xt) (fuel d : Nat) {g : FuncId} {args : List AV} (k0 m0 : Nat) (os0 fr0 : List AObj) (m k1 nx : Nat) (A F : List Nat) (v1 : AV) (os fr1 : List AObj)
    (hl : lookX xt g = none) (hr : runH P xt tt fuel d g args (openH 0 (hO k0 (packed m0 os0 :: fr0)) (hO m0 os0)) (told2 A F) = .ok (vmap (atL (atL A 0 :: F)) v1, os.map fun o => some (omap (atL A) o), fr1.map fun o => some (omap (atL (atL A 0 :: F)) o), nx))
    (hb : (Nat.beq os.length m && Nat.blt 0 m && idsOk 0 A m && os.all (obelow m) && os.all (fun o => !isRo o) && Nat.ble k0 nx && Nat.beq (fr0.length + 1) k0 && Nat.beq (fr1.length + 1) k1 && idsOk k0 (atL A 0 :: F) k1 && fr1.all (obelow k1) && vbelow k1 v1 && F.all (fun i => !A.contains i)) = true) :
    Sp P g args (hO k0 (packed m0 os0 :: fr0)) (fun v h => v = v1 ∧ h = hO k1 (packed m os :: fr1)) := by
  simp only [Bool.and_eq_true, List.all_eq_true] at hb
  obtain ⟨⟨⟨⟨⟨⟨⟨⟨⟨⟨⟨b1, b2⟩, b3⟩, b4⟩, b5⟩, b6⟩, b7⟩, b8⟩, b9⟩, b10⟩, b11⟩, b12⟩ := hb
  have b1 := Nat.eq_of_beq_eq_true b1
  have b7 := Nat.eq_of_beq_eq_true b7
  have b8 := Nat.eq_of_beq_eq_true b8
  have b6 := Nat.le_of_ble_eq_true b6
  have hcall := runH_top hT hm hx fuel d g args (openH 0 (hO k0 (packed m0 os0 :: fr0)) (hO m0 os0)) (told2 A F) _ hl hr
  refine sp_openq (i := 0) (Φ := memIs m0 os0) (by rw [hO_get (by simpa using b7)]; rfl) hcall.1 fun h0 hh => ?_
  have hh : h0 = hO m0 os0 := hh
  subst hh
  refine hcall.mono fun v h' hk => ⟨v1, hO k1 (packed m os :: fr1), ?_, rfl, rfl⟩
  simp only [told2, Rs.ok.injEq, Prod.mk.injEq] at hk
  obtain ⟨e1, e2, e3, e4⟩ := hk
  obtain ⟨_, _, hinj⟩ := idsOk_spec b3
  have hAlen : A.length = m := by simp only [idsOk, Bool.and_eq_true] at b3; exact Nat.eq_of_beq_eq_true b3.1.1.1
  have hA : ∀ j o, os[j]? = some o → h'.get (atL A (0 + j)) = some (omap (atL A) o) := fun j o hj => by
    have e := congrArg (fun l => l[j]?) e2
    simp only [List.getElem?_map, hj, Option.map_some] at e
    cases hi : A[j]? with
    | none => rw [hi] at e; cases e
    | some i =>
      rw [hi] at e
      simp only [Option.map_some, Option.some.injEq] at e
      rw [Nat.zero_add, show atL A j = i by simp [atL, List.getD_eq_getElem?_getD, hi]]
      exact e
  have hk0 : (hO k0 (packed m0 os0 :: fr0)).next = k0 := rfl
  rw [hk0]
  refine (leq_close (k := k0) (v := v) (h := h') (Φ := memIs m os) m A os b1 b2 b3 (by omega) rfl (ownFit_of os 0 fun j o hj => ⟨b4 o (List.mem_of_getElem? hj), by simpa using b5 o (List.mem_of_getElem? hj), hA j o hj⟩)).trans ?_
  have hcl : ∀ j, (closeH (memIs m os) A h').get j = if j = atL A 0 then some (.abs (mkOwn (memIs m os))) else (dropL A h').get j := fun j => by unfold closeH; rw [Heap.get_set]
  refine leq_sub k1 (atL A 0 :: F) (packed m os :: fr1) (by simpa using b8) b9 (objSub_of _ 0 fun j o hj => ?_) e1.symm b11
  rw [Nat.zero_add]
  match j, hj with
  | 0, hj =>
    cases hj
    exact ⟨by rw [hcl]; simp [atL, packed, omap], rfl⟩
  | j + 1, hj =>
    have hj : fr1[j]? = some o := by simpa using hj
    have e := congrArg (fun l => l[j]?) e3
    simp only [List.getElem?_map, hj, Option.map_some] at e
    cases hi : F[j]? with
    | none => rw [hi] at e; cases e
    | some i =>
      rw [hi] at e
      simp only [Option.map_some, Option.some.injEq] at e
      have hiA : i ∉ A := by simpa using b12 i (List.mem_of_getElem? hi)
      have hi0 : i ≠ atL A 0 := fun he => hiA (by
        have : 0 < A.length := by have := nblt_iff.1 b2; omega
        rw [he]; simp only [atL, List.getD_eq_getElem?_getD, List.getElem?_eq_getElem this, Option.getD_some]; exact List.getElem_mem this)
      refine ⟨?_, b10 o (List.mem_of_getElem? hj)⟩
      rw [show atL (atL A 0 :: F) (j + 1) = i by simp [atL, List.getD_eq_getElem?_getD, hi], hcl, if_neg hi0, dropL_get_not _ _ _ hiA]
      exact e
end Go.Proofs.YtlocaplkfaepnaaGreat.SE
end
section
/- Closed calls over packed memory, as contracts. -/
namespace Go.Proofs.YtlocaplkfaepnaaGreat
open Go SE
noncomputable section
/-- Such memory, packed. -/
def isMem (m : Nat) (os : List AObj) (x : Own) : Prop := x = mkOwn (memIs m os)
/-- A closed call over packed memory. -/
def clo (A : List AV) (m0 : Nat) (os0 : List AObj) (V : AV) (m : Nat) (os : List AObj) : Ctr := { X := Own, args := fun _ => A, k := 1, os := fun x => [.abs x], pre := fun x => Hd (isMem m0 os0 x), outs := [{ Y := Own, post := fun _ y => Hd (isMem m os y), ret := fun _ _ => V, m := 1, os := fun _ y => [.abs y] }] }
theorem clo_ok {P : Program} {f : FuncId} {A : List AV} {m0 : Nat} {os0 : List AObj} {V : AV} {m : Nat} {os : List AObj} (h : Sp P f A (hO 1 [packed m0 os0]) (fun v h => v = V ∧ h = hO 1 [packed m os])) : CtrOk P f (clo A m0 os0 V m os) := fun x hx => by
  have hx : x = mkOwn (memIs m0 os0) := hd_iff.1 hx
  subst hx
  exact ⟨rfl, h.mono fun v h' ⟨h1, h2⟩ => by with_unfolding_all exact Or.inl ⟨mkOwn (memIs m os), hd_iff.2 rfl, h1, h2⟩⟩
/-- From no memory. -/
def clo0 (A : List AV) (V : AV) (m : Nat) (os : List AObj) : Ctr := { X := Unit, args := fun _ => A, k := 0, os := fun _ => [], pre := fun _ => True, outs := [{ Y := Own, post := fun _ y => Hd (isMem m os y), ret := fun _ _ => V, m := 1, os := fun _ y => [.abs y] }] }
theorem clo0_ok {P : Program} {f : FuncId} {A : List AV} {V : AV} {m : Nat} {os : List AObj} (h : Sp P f A (hO 0 []) (fun v h => v = V ∧ h = hO 1 [packed m os])) : CtrOk P f (clo0 A V m os) := fun _ _ => ⟨rfl, h.mono fun v h' ⟨h1, h2⟩ => by with_unfolding_all exact Or.inl ⟨mkOwn (memIs m os), hd_iff.2 rfl, h1, h2⟩⟩
/-- A closed call over packed memory, and objects beside it. -/
def cloQ (A : List AV) (k0 m0 : Nat) (os0 fr0 : List AObj) (V : AV) (k1 m : Nat) (os fr1 : List AObj) : Ctr := { X := Own, args := fun _ => A, k := k0, os := fun x => .abs x :: fr0, pre := fun x => Hd (isMem m0 os0 x), outs := [{ Y := Own, post := fun _ y => Hd (isMem m os y), ret := fun _ _ => V, m := k1, os := fun _ y => .abs y :: fr1 }] }
theorem cloQ_ok {P : Program} {f : FuncId} {A : List AV} {k0 m0 : Nat} {os0 fr0 : List AObj} {V : AV} {k1 m : Nat} {os fr1 : List AObj} (hk : Nat.beq (fr0.length + 1) k0 = true) (h : Sp P f A (hO k0 (packed m0 os0 :: fr0)) (fun v h => v = V ∧ h = hO k1 (packed m os :: fr1))) : CtrOk P f (cloQ A k0 m0 os0 fr0 V k1 m os fr1) := fun x hx => by
  have hx : x = mkOwn (memIs m0 os0) := hd_iff.1 hx
  subst hx
  exact ⟨Nat.eq_of_beq_eq_true hk, h.mono fun v h' ⟨h1, h2⟩ => by with_unfolding_all exact Or.inl ⟨mkOwn (memIs m os), hd_iff.2 rfl, h1, h2⟩⟩
/-- True, whatever memory there is. -/
def sayC : Ctr := det Unit (fun _ => []) 0 (fun _ => []) (fun _ => True) (fun _ => boo true) 0 (fun _ => [])
theorem say_ok {P : Program} {f : FuncId} (h : Sp P f [] (hO 0 []) (fun v _ => v = .lit (.bool true))) : CtrOk P f sayC := fun _ _ => ⟨rfl, sp_leq (h.mono fun v h' hv => ⟨boo true, hO 0 [], ⟨Nat.zero_le _, fun ρ T w u hR hv' => by
  subst hv
  obtain ⟨S, h1, h2, h3, h4, h5⟩ := hR
  refine ⟨fun _ => none, fun i hi => absurd hi (by simp [hO, sayC, det]), ⟨fun _ _ => False, fun i o hi => ?_, fun i j o o' b hi => ?_, fun i o b hi => ?_, fun i hi => rfl, h5⟩, by simp only [VRel] at hv'; simp only [boo, VRel]; exact hv'⟩
  all_goals rw [hO_get (n := 0) (os := []) rfl] at hi; simp at hi⟩, by with_unfolding_all exact Or.inl ⟨(), trivial, rfl, rfl⟩⟩)⟩
/-- The phase of a frame that is handed over, the kind of a call. -/
def nthI (n : Nat) : AV → Int
  | .agg l => match l.drop n with
    | .lit (.int _ k) :: _ => k
    | _ => -1
  | _ => -1
def phaseOf (args : List AV) : Int := match args.drop 2 with
  | x :: _ => nthI 5 x
  | _ => -1
def kindOf (args : List AV) : Int := match args.drop 2 with
  | x :: _ => nthI 0 x
  | _ => -1
/-- Of a frame: its phase, its level, whether it is past, whether it has pairs. -/
def cellA (n : Nat) : AV → AV
  | .agg l => match l.drop n with
    | x :: _ => x
    | _ => .any
  | _ => .any
def trueA : AV → Bool
  | .lit (.bool b) => b
  | _ => false
def noneA : AV → Bool
  | .lit (.slice none _ _) => true
  | _ => false
def scanKey (args : List AV) : Int := match args.drop 2 with
  | x :: _ => 100 * nthI 5 x + 10 * nthI 9 x + (bif trueA (cellA 8 x) then 1 else 0) + (bif noneA (cellA 25 x) then 0 else 5)
  | _ => -1
/-- Of a call: its key's first byte. -/
def byteOf : AV → Int
  | .lit (.string s) => match s.data.toList with
    | c :: _ => (c.toNat : Int)
    | _ => -1
  | _ => -1
def keyOf (args : List AV) : Int := match args.drop 2 with
  | x :: _ => byteOf (cellA 1 x)
  | _ => -1
/-- The first of several, by a number. -/
def byI (t : List AV → Int) : List (Int × WTr) → WTr
  | [], _, _, _ => False
  | (n, T) :: r, args, h, K => bif decide (t args = n) then T args h K else byI t r args h K
theorem byI_ok {P : Program} {f : FuncId} {t : List AV → Int} : ∀ {l : List (Int × WTr)}, (∀ x ∈ l, ∀ args h K, x.2 args h K → Sp P f args h K) → ∀ args h K, byI t l args h K → Sp P f args h K
  | [], _, _, _, _, hq => hq.elim
  | (n, T) :: r, hl, args, h, K, hq => by
    unfold byI at hq
    cases hb : decide (t args = n) <;> rw [hb] at hq
    · exact byI_ok (fun x hx => hl x (List.mem_cons_of_mem _ hx)) args h K hq
    · exact hl _ (List.mem_cons_self ..) args h K hq
/-- The same, whether each holds. -/
def AllT (P : Program) (f : FuncId) : List (Int × WTr) → Prop
  | [] => True
  | x :: r => (∀ args h K, x.2 args h K → Sp P f args h K) ∧ AllT P f r
theorem AllT.mem {P : Program} {f : FuncId} : ∀ {l : List (Int × WTr)}, AllT P f l → ∀ x ∈ l, ∀ args h K, x.2 args h K → Sp P f args h K
  | _ :: _, ⟨h1, h2⟩, x, hx => by
    rcases List.mem_cons.1 hx with rfl | hx
    · exact h1
    · exact h2.mem x hx
theorem byT_ok {P : Program} {f : FuncId} {t : List AV → Int} {l : List (Int × WTr)} (h : AllT P f l) (args : List AV) (hh : Heap) (K : AV → Heap → Prop) (hq : byI t l args hh K) : Sp P f args hh K := byI_ok h.mem args hh K hq
end
end Go.Proofs.YtlocaplkfaepnaaGreat
end
section
/- Ranges over functions: the loop's record lies beside all that the program names. -/
namespace Go.Proofs.YtlocaplkfaepnaaGreat
open Go SE
/-- All but two blocks. -/
def but2 (T : Nat → Prop) (a b : Nat) : Nat → Prop := fun x => T x ∧ x ≠ a ∧ x ≠ b
theorem ro_of {ρ : Ren} {w : World} {T T' : Nat → Prop} {a : SE.Loc} {S : Nat → Prop} {o : AObj} (h : OHolds ρ w T a S o) (hro : ¬ T a.blk → (∃ arr e f, w.heap[a.blk]? = some (.cells arr e f)) → ¬ T' a.blk) : OHolds ρ w T' a S o := by
  cases o with
  | ro c =>
    rcases h with h0 | ⟨hT, arr, e, f, h1, h2⟩
    · exact .inl h0
    · exact .inr ⟨hro hT ⟨arr, e, f, h1⟩, arr, e, f, h1, h2⟩
  | _ => exact h
theorem rel_hide {h : Heap} {ρ : Ren} {T : Nat → Prop} {w : World} (hR : Rel h ρ T w) (D L : Obj) : Rel h ρ (but2 T w.heap.size (w.heap.size + 1)) ((w.alloc D).alloc L) := by
  obtain ⟨S, h1, h2, h3, h4, h5⟩ := hR
  have hs : ((w.alloc D).alloc L).heap.size = w.heap.size + 2 := by simp
  have hold : ∀ b, b < w.heap.size → ((w.alloc D).alloc L).heap[b]? = w.heap[b]? := fun b hb => by
    show ((w.heap.push D).push L)[b]? = _
    rw [Array.getElem?_push, if_neg (by simp; omega), Array.getElem?_push, if_neg (by omega)]
  refine ⟨S, fun i o hi => ?_, h2, fun i o b hi hS => ?_, h4, fun b hb => ⟨h5 b (by omega), by omega, by omega⟩⟩
  · obtain ⟨a, ha, ho⟩ := h1 i o hi
    refine ⟨a, ha, ro_of (ho.stays fun b hb => hold b ?_) fun hT _ hh => hT hh.1⟩
    rcases hb with hb | hb
    · exact (h3 i o b hi hb).2
    · rcases Nat.lt_or_ge b w.heap.size with h' | h'
      · exact h'
      · exact (hb (h5 b h')).elim
  · obtain ⟨g1, g2⟩ := h3 i o b hi hS
    exact ⟨⟨g1, by omega, by omega⟩, by omega⟩
theorem rel_show2 {h : Heap} {ρ : Ren} {T : Nat → Prop} {w W : World} {b1 b2 : Nat} {o1 o2 : Obj} (hR : Rel h ρ (but2 T b1 b2) w) (T1 : T b1) (T2 : T b2) (g1 : w.heap[b1]? = some o1) (g2 : w.heap[b2]? = some o2)
    (n1 : ∀ arr e f, o1 ≠ .cells arr e f) (n2 : ∀ arr e f, o2 ≠ .cells arr e f) (hold : ∀ b, b ≠ b1 → b ≠ b2 → W.heap[b]? = w.heap[b]?) (hs : W.heap.size = w.heap.size) (ho : W.os = w.os) (ht : W.tape = w.tape) (hp : W.output = w.output) : Rel h ρ T W ∧ Keeps T w W := by
  obtain ⟨S, h1, h2, h3, h4, h5⟩ := hR
  refine ⟨⟨S, fun i o hi => ?_, h2, fun i o b hi hS => ?_, h4, fun b hb => (h5 b (by omega)).1⟩, ⟨by omega, ho, ht, hp, fun b hb => hold b (fun e => hb (e ▸ T1)) (fun e => hb (e ▸ T2))⟩⟩
  · obtain ⟨a, ha, ho⟩ := h1 i o hi
    refine ⟨a, ha, OHolds.stays (ro_of ho (T' := T) fun hT hc hh => hT ⟨hh, fun e => ?_, fun e => ?_⟩) fun b hb => ?_⟩
    · obtain ⟨arr, e', f, hc⟩ := hc
      rw [e, g1] at hc
      exact n1 _ _ _ (Option.some.inj hc)
    · obtain ⟨arr, e', f, hc⟩ := hc
      rw [e, g2] at hc
      exact n2 _ _ _ (Option.some.inj hc)
    · rcases hb with hb | hb
      · obtain ⟨q1, _⟩ := h3 i o b hi hb
        exact hold b q1.2.1 q1.2.2
      · exact hold b (fun e => hb (e ▸ T1)) (fun e => hb (e ▸ T2))
  · obtain ⟨q1, q2⟩ := h3 i o b hi hS
    exact ⟨q1.1, by omega⟩
theorem rel_show {h : Heap} {ρ : Ren} {T : Nat → Prop} {w : World} {b1 b2 : Nat} {o1 o2 : Obj} (hR : Rel h ρ (but2 T b1 b2) w) (T1 : T b1) (T2 : T b2) (g1 : w.heap[b1]? = some o1) (g2 : w.heap[b2]? = some o2)
    (n1 : ∀ arr e f, o1 ≠ .cells arr e f) (n2 : ∀ arr e f, o2 ≠ .cells arr e f) (o1' o2' : Obj) : Rel h ρ T ((w.putObj b2 o2').putObj b1 o1') ∧ Keeps T w ((w.putObj b2 o2').putObj b1 o1') :=
  rel_show2 hR T1 T2 g1 g2 n1 n2 (fun b e1 e2 => (World.putObj_heap_other e1).trans (World.putObj_heap_other e2)) (by simp) rfl rfl rfl
theorem keeps_hide {h : Heap} {ρ : Ren} {T : Nat → Prop} {w : World} (hR : Rel h ρ T w) (D L : Obj) : Keeps T w ((w.alloc D).alloc L) := by
  obtain ⟨_, _, _, _, _, h5⟩ := hR
  exact (Keeps.alloc D h5).trans (Keeps.alloc L fun b hb => h5 b (by simp at hb; omega))
/-- The statement, where nothing comes: the function returns, and its record is as it was. -/
theorem wp_range_any {P : Program} {n : Nat} {o : Operand} {ps : Array Tmp} {assign body : Code} {Q : Exit → Act → World → Prop} {a : Act} {w : World} (g : FuncId) (fa ca : Array Value)
    (hres : ∀ l w, (resolve a.eval (rangeCall o l) 0).run P w = .ok { target := .fn (.func g) ca, args := fa ++ #[.func (.yield l) #[] #[]] } w) (hrun : ∀ args w, (callFunc g args).run P w = .ok (.enter g args) w)
    (hf : ∀ lp : Loop, lp.state = .ready → lp.pending = none → Calls P g (fa ++ #[.func (.yield (w.heap.size + 1)) #[] #[]] ++ ca) ((w.alloc (.deferred (some []))).alloc (.loop lp)) fun e w' =>
      (∃ u, e = .returned u) ∧ w'.heap[w.heap.size + 1]? = some (.loop lp) ∧ ∀ lp' : Loop, Q .normal { a with defers := [{ target := .collected w.heap.size, args := #[] }] ++ a.defers } (w'.putObj (w.heap.size + 1) (.loop lp'))) :
    (Code.rangeFunc o ps assign body).wpIn Fence.wide n P Q a w := by
  have hinv : ∀ v, (invoke (.fn (.func g) ca) (fa ++ #[.func (.yield (w.heap.size + 1)) #[] #[]])).run P v = .ok (.enter g (fa ++ #[.func (.yield (w.heap.size + 1)) #[] #[]] ++ ca)) v := fun v => by simp [invoke, go_sem, hrun]
  refine wpIn_rangeFunc fun fn _ => ⟨w.heap.size + 1, [{ target := .collected w.heap.size, args := #[] }], _, { target := .fn (.func g) ca, args := fa ++ #[.func (.yield (w.heap.size + 1)) #[] #[]] }, _, g,
    fa ++ #[.func (.yield (w.heap.size + 1)) #[] #[]] ++ ca, _, run_enterLoop_outer _ _ _ _ _, hres _ _, fun _ _ => trivial, hinv _, (fun h => by cases h), ?_⟩
  refine callsIn_wide.2 ((hf _ rfl rfl).mono ?_)
  rintro e w' ⟨⟨u, rfl⟩, hL, hQ⟩
  exact ⟨none, _, run_endLoop (P := P) hL (by simp), hQ _⟩
end Go.Proofs.YtlocaplkfaepnaaGreat
end
section
/- slices.AppendSeq where nothing comes: whatever the iterator does. -/
namespace Go.Proofs.YtlocaplkfaepnaaGreat
open Go
set_option maxRecDepth 100000 in
set_option maxHeartbeats 1600000 in
theorem app_any (g : FuncId) (fa ca : Array Value) (w : World) (R : Value → World → Prop) (hc : SE.Callable Tryz.prog g)
    (hf : ∀ lp : Loop, lp.state = .ready → lp.pending = none → Calls Tryz.prog g (fa ++ #[.func (.yield (w.heap.size + 2)) #[] #[]] ++ ca) (((w.alloc (.cells #[.slice none 0 0] 49)).alloc (.deferred (some []))).alloc (.loop lp)) fun e w' =>
      (∃ u, e = .returned u) ∧ w'.heap[w.heap.size + 1]? = some (.deferred (some [])) ∧ w'.heap[w.heap.size + 2]? = some (.loop lp) ∧ ∃ r, w'.cell? ⟨w.heap.size, 0, none⟩ = some r ∧ R r w') :
    Calls Tryz.prog 293 #[.slice none 0 0, .func (.func g) fa ca] w fun e w2 => ∃ r w' lp, e = .returned r ∧ R r w' ∧ w2 = (w'.putObj (w.heap.size + 2) (.loop lp)).putObj (w.heap.size + 1) (.deferred none) := by
  have hrun := SE.callable_run hc
  refine (callsIn_wide (n := 0)).1 ?_
  refine callsIn_of_wp_marks (F := Fence.wide) Tryz.func293 rfl trivial ?_ rfl
  simp only [Tryz.ntmps293, List.size_toArray, List.length_cons, List.length_nil, Nat.reduceAdd, Nat.reduceSub, Array.replicate_succ, Array.replicate_zero, List.push_toArray, List.append_toArray, List.nil_append, List.cons_append]
  gi_wp2
  refine wp_range_any g fa ca (fun l v => by simp [resolve, go_sem]) hrun fun lp h1 h2 => ?_
  obtain ⟨W0, hW0⟩ : ∃ W0, w.alloc (.cells #[.slice none 0 0] 49) = W0 := ⟨_, rfl⟩
  have hs0 : W0.heap.size = w.heap.size + 1 := by rw [← hW0]; simp
  rw [hW0] at hf ⊢
  have hf := hf lp h1 h2
  rw [show w.heap.size + 2 = W0.heap.size + 1 by omega, ← hs0] at hf
  refine hf.mono ?_
  rintro e w' ⟨hu, hD, hL, r, hr, hR⟩
  refine ⟨hu, hL, fun lp' => ?_⟩
  obtain ⟨W3, hW3⟩ : ∃ W3, w'.putObj (W0.heap.size + 1) (.loop lp') = W3 := ⟨_, rfl⟩
  rw [hW3]
  have hr3 : W3.cell? ⟨w.heap.size, 0, none⟩ = some r := by rw [← hW3]; exact (World.cell?_of_block (World.putObj_heap_other (by simp only [ne_eq]; omega))).trans hr
  have hD3 : W3.heap[W0.heap.size]? = some (.deferred (some [])) := by rw [← hW3]; exact (World.putObj_heap_other (by omega)).trans hD
  have hpost : ∀ r', r' = r → bodyPostM Fence.wide 0 Tryz.prog Tryz.f293 (fun e w2 => ∃ r w' lp, e = .returned r ∧ R r w' ∧ w2 = (w'.putObj (w.heap.size + 2) (.loop lp)).putObj (w.heap.size + 1) (.deferred none)) .ret { tmps := #[.slice none 0 0, .func (.func g) fa ca, .pointer (some { block := w.heap.size, off := 0 }), undef, r', undef, .func (.func g) fa ca, undef, undef, undef, undef, undef, r'], defers := [{ target := .collected W0.heap.size, args := #[] }] } W3 := fun r' er => by
    subst er
    refine ⟨by simp, .inl ⟨_, _, rfl, run_takeDeferred hD3, ?_⟩⟩
    refine ⟨_, results_tmp rfl _ _ _, r', w', lp', rfl, hR, ?_⟩
    rw [← hW3, show w.heap.size + 2 = W0.heap.size + 1 by omega, ← hs0]
  gi_wp2
  exact hpost _ rfl
end Go.Proofs.YtlocaplkfaepnaaGreat
end
section
/- limbo.find where nothing comes: whatever the iterator does. -/
namespace Go.Proofs.YtlocaplkfaepnaaGreat
open Go
end Go.Proofs.YtlocaplkfaepnaaGreat
end
section
/- Once: the slow road, with any function. -/
namespace Go.Proofs.YtlocaplkfaepnaaGreat
open Go
set_option maxRecDepth 100000 in
set_option maxHeartbeats 1600000 in
theorem slow_any (b off : Nat) (g : FuncId) (fa ca : Array Value) (w : World) (R : World → Prop) (hc : SE.Callable Tryz.prog g)
    (h0 : w.cell? ⟨b, off, none⟩ = some (.int .u32 0)) (h1 : w.cell? ⟨b, off + 1, none⟩ = some (.int .i32 0)) (f0 : w.frozen? ⟨b, off, none⟩ = false) (f1 : w.frozen? ⟨b, off + 1, none⟩ = false)
    (hf : Calls Tryz.prog g (fa ++ ca) (w.setCell ⟨b, off + 1, none⟩ (.int .i32 1)) fun e w' => (∃ u, e = .returned u) ∧ w'.cell? ⟨b, off, none⟩ = some (.int .u32 0) ∧ w'.frozen? ⟨b, off, none⟩ = false ∧
      w'.cell? ⟨b, off + 1, none⟩ = some (.int .i32 1) ∧ w'.frozen? ⟨b, off + 1, none⟩ = false ∧ R w') :
    Calls Tryz.prog 103 #[.pointer (some ⟨b, off, none⟩), .func (.func g) fa ca] w fun e w' => e = .returned (.tuple #[]) ∧ ∃ w2, R w2 ∧
      w' = (w2.drew.setCell ⟨b, off, none⟩ (.int .u32 1)).setCell ⟨b, off + 1, none⟩ (.int .i32 0) := by
  have hl := run_call_load (P := Tryz.prog) Tryz.func149 (by kernel_rfl) (by kernel_rfl) (by kernel_rfl) .u32 (by kernel_rfl) (w := w.setCell ⟨b, off + 1, none⟩ (.int .i32 1)) (a := ⟨b, off, none⟩) (x := 0) ((World.cell?_setCell_other _ ⟨b, off + 1, none⟩ ⟨b, off, none⟩ _ (by simp)).trans h0)
  have hnot : ∀ (x : Bool) (w : World), (Op.unary .not (.bool x)).run Tryz.prog w = .ok (.bool (!x)) w := fun _ _ => rfl
  have hrun := SE.callable_run hc
  go_enter_defers Tryz.func103, Tryz.ntmps103
  go_wp2_with (go_at_call 150; refine (lock_free ⟨b, off + 1, none⟩ _ (by go_simp) (by go_simp)).mono ?_; rintro e w' ⟨rfl, rfl⟩)
  go_wp2
  refine hf.mono ?_
  rintro e w' ⟨⟨u, rfl⟩, c0, z0, c1, z1, hR⟩
  go_wp2
  -- THE DOOR: two deferred calls, the last laid first
  refine leaves_cons (f := 152) (args := #[.pointer (some ⟨b, off, none⟩), .bool true]) (by simp) (by simp [go_sem]) ?_
  refine (store_deferred ⟨b, off, none⟩ (.int .u32 0) .returning _ c0 z0).mono ?_
  rintro e u' w'' ⟨rfl, rfl, rfl⟩
  refine leaves_cons (f := 151) (args := #[.pointer (some ⟨b, off + 1, none⟩)]) (by simp [settle]) (by simp [go_sem]) ?_
  refine (unlock_deferred ⟨b, off + 1, none⟩ _ _ ?_ ?_).mono ?_
  · refine (World.cell?_setCell_other _ ⟨b, off, none⟩ ⟨b, off + 1, none⟩ _ (by simp)).trans ?_
    rw [World.cell?_drew]; exact c1
  · simp [z1]
  rintro e u' w'' ⟨rfl, rfl, rfl⟩
  simp [Leaves, settle, results, Tryz.results103]
  exact ⟨w', hR, rfl⟩
end Go.Proofs.YtlocaplkfaepnaaGreat
end
section
/- Once: as an operation of closed runs. -/
namespace Go.Proofs.YtlocaplkfaepnaaGreat
open Go SE
def isU0 (k : IntKind) (z : Int) (x : Option AV) : Bool := match x with
  | some (.lit (.int k' z')) => decide (k' = k) && decide (z' = z)
  | _ => false
theorem isU0_iff {k : IntKind} {z : Int} {x : Option AV} (h : isU0 k z x = true) : x = some (.lit (.int k z)) := by
  unfold isU0 at h
  split at h
  · simp only [Bool.and_eq_true, decide_eq_true_eq] at h
    obtain ⟨rfl, rfl⟩ := h; rfl
  · cases h
/-- The slow road of Once, the first time: the function is run. -/
def onceX (xt : XTbl) (run : RunG (AV × Heap)) : XFn := fun args h => match args with
  | [.ptr i o, .fn (.func g) first cap] => bif (lookX xt g).isNone && isU0 .u32 0 (cellAt h i o) && isU0 .i32 0 (cellAt h i (o + 1)) && (setCell h i o (.lit (.int .u32 1))).isSome then (match setCell h i (o + 1) (.lit (.int .i32 1)) with
    | some h1 => match run g (first ++ cap) h1 (fun v h => .ok (v, h)) with
      | .ok (_, h2) => bif isU0 .u32 0 (cellAt h2 i o) && isU0 .i32 1 (cellAt h2 i (o + 1)) && (setCell h2 i (o + 1) (.lit (.int .i32 0))).isSome then (match setCell h2 i o (.lit (.int .u32 1)) with
        | some h3 => match setCell h3 i (o + 1) (.lit (.int .i32 0)) with
          | some h4 => some (.tup [], h4)
          | none => none
        | none => none) else none
      | .no _ => none
    | none => none) else none
  | _ => none
theorem cell_at {h : Heap} {ρ : Ren} {T : Nat → Prop} {w : World} (hR : Rel h ρ T w) {i o : Nat} {b : SE.Loc} {k : IntKind} {z : Int} (hb : ρ i = some b) (hc : isU0 k z (cellAt h i o) = true) : w.cell? ⟨b.blk, b.base + o, none⟩ = some (.int k z) := by
  obtain ⟨b', hb', y, hy, hr⟩ := hR.cell (isU0_iff hc)
  obtain rfl : b' = b := Option.some.inj (hb'.symm.trans hb)
  simp only [VRel] at hr
  subst hr; exact hy
theorem put_at {h h' : Heap} {i o : Nat} {k : IntKind} {z : Int} (hs : setCell h i o (.lit (.int k z)) = some h') : putI h i o k z (fun x => x = h') := by unfold putI; rw [hs]
theorem onceX_ok {xt : XTbl} {run : RunG (AV × Heap)} (hr : ∀ g args h K a, lookX xt g = none → run g args h K = .ok a → Sp Tryz.prog g args h (fun v h' => K v h' = .ok a)) {args : List AV} {h h' : Heap} {v : AV} (ho : onceX xt run args h = some (v, h')) :
    Sp Tryz.prog 103 args h (fun v1 h1 => v1 = v ∧ h1 = h') := by
  unfold onceX at ho
  split at ho
  · rename_i i o g first cap
    cases hc : ((lookX xt g).isNone && isU0 .u32 0 (cellAt h i o) && isU0 .i32 0 (cellAt h i (o + 1)) && (setCell h i o (.lit (.int .u32 1))).isSome) <;> rw [hc] at ho
    · cases ho
    · simp only [cond_true] at ho
      simp only [Bool.and_eq_true, Option.isNone_iff_eq_none] at hc
      obtain ⟨⟨⟨hn, c0⟩, c1⟩, c2⟩ := hc
      split at ho
      · rename_i h1 hs1
        split at ho
        · rename_i v2 h2 hrun
          cases hc2 : (isU0 .u32 0 (cellAt h2 i o) && isU0 .i32 1 (cellAt h2 i (o + 1)) && (setCell h2 i (o + 1) (.lit (.int .i32 0))).isSome) <;> rw [hc2] at ho
          · cases ho
          · simp only [cond_true] at ho
            simp only [Bool.and_eq_true] at hc2
            obtain ⟨⟨d0, d1⟩, d2⟩ := hc2
            split at ho
            · rename_i h3 hs3
              split at ho
              · rename_i h4 hs4
                cases ho
                have hsp := hr _ _ _ _ _ hn hrun
                refine ⟨⟨_, Tryz.func103, by kernel_rfl, by kernel_rfl⟩, fun ρ T w vs hR hl => ?_⟩
                simp only [LRel] at hl
                obtain ⟨u0, _, hvs, hu0, u1, _, rfl, hu1, rfl⟩ := hl
                simp only [VRel] at hu0 hu1
                obtain ⟨b, hb, rfl⟩ := hu0
                obtain ⟨fa, ca, rfl, hfa, hca⟩ := hu1
                have hvs' := vs2 hvs
                rw [hvs']
                have e1 : b.base + (o + 1) = b.base + o + 1 := by omega
                obtain ⟨h1', f1, R1, n1, K1, rfl⟩ := putI_ok (P := Tryz.prog) hR (put_at hs1) hb
                -- the cell beside may be written as well
                have f0 : w.frozen? ⟨b.blk, b.base + o, none⟩ = false := by
                  obtain ⟨h5, hs5⟩ := Option.isSome_iff_exists.1 c2
                  exact hR.ownCell hs5 hb
                have g0 := cell_at hR hb c0
                have g1 := cell_at hR hb c1
                rw [e1] at g1 f1
                refine (slow_any b.blk (b.base + o) g fa ca w (fun w2 => ∃ ρ2, (∀ j, j < h.next → ρ2 j = ρ j) ∧ h.next ≤ h2.next ∧ Rel h2 ρ2 T w2 ∧ Keeps T w w2) hsp.1 g0 g1 f0 f1 ?_).mono ?_
                · refine (hsp.2 ρ T _ (fa ++ ca) (by rw [← e1]; exact R1) (by rw [Array.toList_append]; exact hfa.append hca)).mono ?_
                  rintro e w2 ⟨ρ2, v3, u, h3', q1, q2, q3, q4, rfl, q5, hq⟩
                  cases hq
                  have hi : i < h1'.next := by
                    rcases Nat.lt_or_ge i h1'.next with hlt | hge
                    · exact hlt
                    · obtain ⟨_, _, _, _, r4, _⟩ := R1
                      rw [r4 i hge] at hb; cases hb
                  have hb2 : ρ2 i = some b := (q1 i hi).trans hb
                  obtain ⟨h5, hs5⟩ := Option.isSome_iff_exists.1 d2
                  obtain ⟨_, z1, _⟩ := putI_ok (P := Tryz.prog) q3 (put_at hs5) hb2
                  obtain ⟨_, z0, _⟩ := putI_ok (P := Tryz.prog) q3 (put_at hs3) hb2
                  have m0 := cell_at q3 hb2 d0
                  have m1 := cell_at q3 hb2 d1
                  rw [e1] at m1 z1
                  exact ⟨⟨u, rfl⟩, m0, z0, m1, z1, ρ2, fun j hj => q1 j (by rw [n1]; exact hj), by rw [← n1]; exact q2, q3, (by rw [e1] at K1; exact K1.trans q5)⟩
                · rintro e w' ⟨rfl, w2, ⟨ρ2, q1, q2, q3, q5⟩, rfl⟩
                  have hi : i < h.next := by
                    rcases Nat.lt_or_ge i h.next with hlt | hge
                    · exact hlt
                    · obtain ⟨_, _, _, _, r4, _⟩ := hR
                      rw [r4 i hge] at hb; cases hb
                  have hb2 : ρ2 i = some b := (q1 i hi).trans hb
                  obtain ⟨h3', _, R3, n3, K3, rfl⟩ := putI_ok (P := Tryz.prog) q3.drew (put_at hs3) hb2
                  obtain ⟨h4', _, R4, n4, K4, rfl⟩ := putI_ok (P := Tryz.prog) R3 (put_at hs4) hb2
                  rw [e1] at R4 K4
                  exact ⟨ρ2, _, _, _, q1, by omega, R4, by simp only [VRel]; exact ⟨_, rfl, .nil⟩, rfl, ((q5.trans (Keeps.drew T w2)).trans K3).trans K4, rfl, rfl⟩
              · cases ho
            · cases ho
        · cases ho
      · cases ho
  · cases ho
end Go.Proofs.YtlocaplkfaepnaaGreat
end
section
/- A step of a sum. -/
namespace Go.Proofs.YtlocaplkfaepnaaGreat
open Go SE
def x32 (a b : Int) : Int := IntKind.u32.wrap ((BitVec.ofInt 32 a ^^^ BitVec.ofInt 32 b).toNat : Nat)
def bitM (c : Int) : Int := bif decide (c % 2 = 0) then c / 2 else x32 (c / 2) 3988292384
def bitsM (c : Int) : Nat → Int
  | 0 => c
  | k + 1 => bitM (bitsM c k)
def stepM (c x : Int) : Int := bitsM (x32 c x) 8
def U32 (c : Int) : Prop := 0 ≤ c ∧ c < 4294967296
theorem wrap_u32 (z : Int) : U32 (IntKind.u32.wrap z) := by
  unfold IntKind.wrap U32
  simp [IntKind.bits, IntKind.signed]
  omega
theorem wrap_u32_id {z : Int} (h : U32 z) : IntKind.u32.wrap z = z := by
  unfold IntKind.wrap U32 at *
  simp [IntKind.bits, IntKind.signed]
  omega
theorem x32_U (a b : Int) : U32 (x32 a b) := wrap_u32 _
theorem bitM_U {c : Int} (h : U32 c) : U32 (bitM c) := by
  unfold bitM
  cases decide (c % 2 = 0)
  · exact x32_U _ _
  · unfold U32 at *; simp only [cond_true]; omega
theorem bitsM_U {c : Int} (h : U32 c) : ∀ k, U32 (bitsM c k)
  | 0 => h
  | k + 1 => bitM_U (bitsM_U h k)
def u32 (c : Int) : AV := .lit (.int .u32 c)
def stepC : Ctr := det (Int × Int) (fun p => [u32 p.1, .lit (.int .u8 p.2)]) 0 (fun _ => []) (fun p => U32 p.1 ∧ 0 ≤ p.2 ∧ p.2 < 256) (fun p => u32 (stepM p.1 p.2)) 0 (fun _ => [])
def anStep (p : Int × Int) : FuncId → Anns := fun f =>
  bif Nat.beq f 263 then (fun b fr h => bif Nat.beq b 0 then [{ σ := Nat, fr := fun k => [(5, i64 k), (0, u32 (bitsM (x32 p.1 p.2) k))], ob := fun _ => [], inv := fun k => k ≤ 8, meas := fun k => 8 - k }] else []) else
fun _ _ _ => []
end Go.Proofs.YtlocaplkfaepnaaGreat
end
section
/- What is asked of a step of a sum. -/
namespace Go.Proofs.YtlocaplkfaepnaaGreat
open Go SE
def stepVC_wp (p : Int × Int) : Prop := wpF Tryz.prog [] tt (anStep p) 200 5 263 (stepC.args p) (hO stepC.k (stepC.os p)) (fun v h' => endsP stepC.k p v h' stepC.outs)
def stepVC (p : Int × Int) : Prop :=
  ((∃ (s : Nat), ((s ≤ 8) ∧ (True ∧ (((((s : Nat) : Int) = (0 : Int)) ∧ (((@bitsM (@x32 (Prod.fst p) (Prod.snd p)) s) = (IntKind.wrap IntKind.u32 (((@BitVec.toNat 32 (@HXor.hXor (@BitVec 32) (@BitVec 32) (@BitVec 32) (@instHXorOfXorOp (@BitVec 32) (@BitVec.instXorOp 32)) (@BitVec.ofInt 32 (Prod.fst p)) (@BitVec.ofInt 32 (IntKind.wrap IntKind.u32 (Prod.snd p))))) : Nat) : Int))) ∧ True)) ∧ True)))) ∧ ((∀ (s : Nat), ((s ≤ 8) → (cP (decide (((s : Nat) : Int) < (8 : Int))) ((I64 (((s : Nat) : Int) + (1 : Int))) ∧ ((((2 : Int) = (0 : Int)) → False) ∧ (cP (BEq.beq (@Int.tmod (@bitsM (@x32 (Prod.fst p) (Prod.snd p)) s) (2 : Int)) (0 : Int)) ((((2 : Int) = (0 : Int)) → False) ∧ (∃ (s_1 : Nat), ((s_1 ≤ 8) ∧ (((8 - s_1) < (8 - s)) ∧ (((((s_1 : Nat) : Int) = (((s : Nat) : Int) + (1 : Int))) ∧ (((@bitsM (@x32 (Prod.fst p) (Prod.snd p)) s_1) = (IntKind.wrap IntKind.u32 (@Int.tdiv (@bitsM (@x32 (Prod.fst p) (Prod.snd p)) s) (2 : Int)))) ∧ True)) ∧ True))))) ((((2 : Int) = (0 : Int)) → False) ∧ (∃ (s_1 : Nat), ((s_1 ≤ 8) ∧ (((8 - s_1) < (8 - s)) ∧ (((((s_1 : Nat) : Int) = (((s : Nat) : Int) + (1 : Int))) ∧ (((@bitsM (@x32 (Prod.fst p) (Prod.snd p)) s_1) = (IntKind.wrap IntKind.u32 (((@BitVec.toNat 32 (@HXor.hXor (@BitVec 32) (@BitVec 32) (@BitVec 32) (@instHXorOfXorOp (@BitVec 32) (@BitVec.instXorOp 32)) (@BitVec.ofInt 32 (IntKind.wrap IntKind.u32 (@Int.tdiv (@bitsM (@x32 (Prod.fst p) (Prod.snd p)) s) (2 : Int)))) (@BitVec.ofInt 32 (3988292384 : Int)))) : Nat) : Int))) ∧ True)) ∧ True)))))))) (∃ (y : Unit), (True ∧
 (((@stepM (Prod.fst p) (Prod.snd p)) = (@bitsM (@x32 (Prod.fst p) (Prod.snd p)) s)) ∧ True)))))) ∧ True))
theorem stepVC_ok (p : Int × Int) : stepVC p = stepVC_wp p := by kernel_rfl
end Go.Proofs.YtlocaplkfaepnaaGreat
end
section
/- A step of a sum, as an operation of closed runs. -/
namespace Go.Proofs.YtlocaplkfaepnaaGreat
open Go SE
theorem half {c : Int} (h : U32 c) : Int.tmod c 2 = c % 2 ∧ IntKind.u32.wrap (Int.tdiv c 2) = c / 2 := by
  have e : Int.tdiv c 2 = c / 2 := Int.tdiv_eq_ediv_of_nonneg h.1
  refine ⟨Int.tmod_eq_emod_of_nonneg h.1, ?_⟩
  rw [e]; exact wrap_u32_id (by unfold U32 at *; omega)
theorem stepVC_true (p : Int × Int) (hp : U32 p.1 ∧ 0 ≤ p.2 ∧ p.2 < 256) : stepVC p := by
  unfold stepVC
  have hw : IntKind.u32.wrap p.2 = p.2 := wrap_u32_id (by unfold U32; omega)
  have hx : ∀ a b, IntKind.u32.wrap ((BitVec.ofInt 32 a ^^^ BitVec.ofInt 32 b).toNat : Nat) = x32 a b := fun _ _ => rfl
  simp only [and_true, true_and, hw, hx]
  refine ⟨⟨0, by omega, rfl, rfl⟩, fun s hs => cP_intro (fun hb => ?_) (fun hb => ?_)⟩
  · have hb := of_decide_eq_true hb
    obtain ⟨h1, h2⟩ := half (bitsM_U (x32_U p.1 p.2) s)
    rw [h1, h2]
    refine ⟨by unfold I64; omega, by omega, cP_intro (fun hc => ?_) (fun hc => ?_)⟩
    · have hc : bitsM (x32 p.1 p.2) s % 2 = 0 := by simpa using hc
      exact ⟨by omega, s + 1, by omega, by omega, rfl, by simp [bitsM, bitM, hc]⟩
    · have hc : bitsM (x32 p.1 p.2) s % 2 ≠ 0 := by simpa using hc
      exact ⟨by omega, s + 1, by omega, by omega, rfl, by simp only [bitsM, bitM, hc, decide_false, cond_false]⟩
  · have : s = 8 := by have := of_decide_eq_false hb; omega
    subst this
    exact ⟨(), rfl⟩
theorem step_ok : CtrOk Tryz.prog 263 stepC := det_end tt_ok mixed TblOk.nil anStep 200 5 (fun _ => rfl) (fun _ => rfl) fun x hx => Eq.mp (stepVC_ok x) (stepVC_true x hx)

theorem det_sp {P : Program} {f : FuncId} {X : Type} {args : X → List AV} {pre : X → Prop} {ret : X → AV} (hC : CtrOk P f (det X args 0 (fun _ => []) pre ret 0 (fun _ => []))) (x : X) (hp : pre x) : Sp P f (args x) (hO 0 []) (fun v _ => v = ret x) :=
  (hC x hp).2.mono fun _ _ hh => by
    have ha : allOuts x (fun v _ => v = ret x) (det X args 0 (fun _ => []) pre ret 0 (fun _ => [])).outs := fun _ _ => rfl
    exact allOuts_ok ha hh
def stepX1 : XFn := fun args h => match args with
  | [.lit (.int .u32 c), .lit (.int .u8 x)] => bif decide (0 ≤ c) && decide (c < 4294967296) && decide (0 ≤ x) && decide (x < 256) then some (.lit (.int .u32 (stepM c x)), h) else none
  | _ => none
theorem stepX1_ok {args : List AV} {h h' : Heap} {v : AV} (hv : stepX1 args h = some (v, h')) : Sp Tryz.prog 263 args h (fun v1 h1 => v1 = v ∧ h1 = h') := by
  unfold stepX1 at hv
  split at hv
  · rename_i c x
    cases hc : (decide (0 ≤ c) && decide (c < 4294967296) && decide (0 ≤ x) && decide (x < 256)) <;> rw [hc] at hv
    · cases hv
    · cases hv
      simp only [Bool.and_eq_true, decide_eq_true_eq] at hc
      obtain ⟨⟨⟨h1, h2⟩, h3⟩, h4⟩ := hc
      have hs := det_sp step_ok (c, x) ⟨⟨h1, h2⟩, h3, h4⟩
      exact sp_plain h hs (fun v h' hh => hh) rfl rfl
  · cases hv
end Go.Proofs.YtlocaplkfaepnaaGreat
end
section
/- The functions that closed runs do not step through. -/
namespace Go.Proofs.YtlocaplkfaepnaaGreat
open Go SE
theorem xok_nil {P : Program} : XOk' P [] := fun g T h => by cases h
theorem xok_cons {P : Program} {f : FuncId} {T : XFn} {r : XTbl} (h1 : ∀ args h v h', T args h = some (v, h') → SpE P f args h (fun v1 h1 => v1 = v ∧ h1 = h')) (h2 : XOk' P r) : XOk' P ((f, T) :: r) := fun g T' hl args h v h' hv => by
  simp only [lookX] at hl
  cases hb : Nat.beq f g <;> rw [hb] at hl
  · exact h2 g T' hl args h v h' hv
  · simp only [cond_true, Option.some.injEq] at hl
    subst hl
    rw [← Nat.eq_of_beq_eq_true hb]
    exact h1 args h v h' hv
def cmpG : XFn := fun args h => match args with
  | [.lit (.string a), .lit (.string b)] => some (.lit (.int .i64 (Lib.compareBytes a.data.toList b.data.toList)), h)
  | _ => none
theorem cmpG_ok {args : List AV} {h h' : Heap} {v : AV} {K : AV → Heap → Prop} (hg : cmpG args h = some (v, h')) (hq : K v h') : cmpX args h K := by
  unfold cmpG at hg
  unfold cmpX
  split at hg
  · cases hg
    simp only [cmpM, hide_eq]
    exact hq
  · cases hg
noncomputable def tbl0 : XTbl := [(263, stepX1), (82, loadG .u64), (148, storeG .u64), (284, addG .u64), (201, addG .i64), (149, loadG .u32), (197, storeG .u32), (270, casG .u64), (177, cmpG)]
theorem ext_load64 : IsExt Tryz.prog 82 (Extern.Atomic.loadT (.int .u64)) := ⟨Tryz.f82, by kernel_rfl, by kernel_rfl, by kernel_rfl, by kernel_rfl, by kernel_rfl⟩
theorem ext_load32 : IsExt Tryz.prog 149 (Extern.Atomic.loadT (.int .u32)) := ⟨Tryz.f149, by kernel_rfl, by kernel_rfl, by kernel_rfl, by kernel_rfl, by kernel_rfl⟩
theorem ext_store64 : IsExt Tryz.prog 148 Extern.Atomic.storeT := ⟨Tryz.f148, by kernel_rfl, by kernel_rfl, by kernel_rfl, by kernel_rfl, by kernel_rfl⟩
theorem ext_store32 : IsExt Tryz.prog 197 Extern.Atomic.storeT := ⟨Tryz.f197, by kernel_rfl, by kernel_rfl, by kernel_rfl, by kernel_rfl, by kernel_rfl⟩
theorem ext_addu64 : IsExt Tryz.prog 284 (Extern.Atomic.update (Op.intArith .add) .u64 true) := ⟨Tryz.f284, by kernel_rfl, by kernel_rfl, by kernel_rfl, by kernel_rfl, by kernel_rfl⟩
theorem ext_addi64 : IsExt Tryz.prog 201 (Extern.Atomic.update (Op.intArith .add) .i64 true) := ⟨Tryz.f201, by kernel_rfl, by kernel_rfl, by kernel_rfl, by kernel_rfl, by kernel_rfl⟩
theorem ext_cas64 : IsExt Tryz.prog 270 (Extern.Atomic.casT (.int .u64)) := ⟨Tryz.f270, by kernel_rfl, by kernel_rfl, by kernel_rfl, by kernel_rfl, by kernel_rfl⟩
theorem ext_cmp : IsExt Tryz.prog 177 Extern.BytealgCompare.compare := ⟨Tryz.f177, by kernel_rfl, by kernel_rfl, by kernel_rfl, by kernel_rfl, by kernel_rfl⟩

theorem tbl0_ok : XOk' Tryz.prog tbl0 :=
  xok_cons (fun _ _ _ _ hv => .inl (stepX1_ok hv)) <|
  xok_cons (fun _ _ _ _ hv => .inr (loadX_ok _ _ _ ext_load64 (loadG_ok hv ⟨rfl, rfl⟩))) <|
  xok_cons (fun _ _ _ _ hv => .inr (storeX_ok _ _ _ ext_store64 (storeG_ok hv ⟨rfl, rfl⟩))) <|
  xok_cons (fun _ _ _ _ hv => .inr (addX_ok _ _ _ ext_addu64 (addG_ok hv ⟨rfl, rfl⟩))) <|
  xok_cons (fun _ _ _ _ hv => .inr (addX_ok _ _ _ ext_addi64 (addG_ok hv ⟨rfl, rfl⟩))) <|
  xok_cons (fun _ _ _ _ hv => .inr (loadX_ok _ _ _ ext_load32 (loadG_ok hv ⟨rfl, rfl⟩))) <|
  xok_cons (fun _ _ _ _ hv => .inr (storeX_ok _ _ _ ext_store32 (storeG_ok hv ⟨rfl, rfl⟩))) <|
  xok_cons (fun _ _ _ _ hv => .inr (casX_ok _ _ _ ext_cas64 (casG_ok hv ⟨rfl, rfl⟩))) <|
  xok_cons (fun _ _ _ _ hv => .inr (cmpX_ok ext_cmp _ _ _ (cmpG_ok hv ⟨rfl, rfl⟩))) xok_nil
/-- All of them. -/
noncomputable def tblG : XTbl := (103, onceX tbl0 (runH Tryz.prog tbl0 tt 2000 30)) :: tbl0
theorem tblG_ok : XOk' Tryz.prog tblG := xok_cons (fun _ _ _ _ hv => .inl (onceX_ok (runH_top tt_ok mixed tbl0_ok 2000 30) hv)) tbl0_ok
end Go.Proofs.YtlocaplkfaepnaaGreat
end
section
/- A swap, as an operation of closed runs. -/
namespace Go.Proofs.YtlocaplkfaepnaaGreat.SE
open Go
theorem run_call_swap {P : Program} {f : FuncId} {fn : Func} (hf : P.funcs[f]? = some fn) (hname : (fn.name == "runtime.NumGoroutine") = false) (hb : fn.body.isNone = true) (hn : Extern.findNext fn = none) (k : IntKind)
    (he : Extern.find fn = some (Extern.Atomic.swapT (.int k))) {a : Addr} {x y : Int} {w : World} (hc : w.cell? a = some (.int k x)) (hz : w.frozen? a = false) :
    (callFunc f #[.pointer (some a), .int k y]).run P w = .ok (.value (.int k x)) (w.setCell a (.int k y)) := by
  rw [run_callFunc_extern hf hname hb hn he]
  change (Sem.run P (do
    let a' ← asAddr (.pointer (some a))
    let old ← Extern.Atomic.read (.int k) a'
    store a' (.int k y) .atomic
    pure old) w).andThen _ = _
  simp [Extern.Atomic.read, asAddr, viewAt, World.shape?_isSome_of_cell? hc, hc, hz, run_store P w a (.int k y) .atomic rfl, Result.andThen]
theorem swapX_ok {P : Program} {f : FuncId} {k : IntKind} (args : List AV) (h : Heap) (K : AV → Heap → Prop) (hf : IsExt P f (Extern.Atomic.swapT (.int k))) (hq : swapX k args h K) : XSp P f args h K := by
  obtain ⟨fn, h1, h2, h3, h4, h5⟩ := hf
  unfold swapX at hq
  split at hq
  · rename_i a k' y
    by_cases hk : k' = k
    · subst hk
      simp only [decide_true, cond_true] at hq
      intro ρ T w vs hR hl
      simp only [LRel, VRel] at hl
      obtain ⟨u, _, hvs, hu, _, _, rfl, rfl, rfl⟩ := hl
      obtain ⟨i, o, x, b, rfl, hb, hc, hq⟩ := atI_ok hR hq hu
      obtain ⟨h', g1, g2, g3, g4, hq⟩ := putI_ok (P := P) hR hq hb
      rw [vs2 hvs]
      exact ⟨_, _, _, _, ρ, run_call_swap h1 h2 h3 h4 k' h5 hc g1, fun _ _ => rfl, Ren.le_refl _, by omega, g2, by simp only [VRel], g4, hq⟩
    · simp [hk] at hq
  · exact hq.elim
end Go.Proofs.YtlocaplkfaepnaaGreat.SE
end
section
/- The functions that closed runs do not step through: with swaps. -/
namespace Go.Proofs.YtlocaplkfaepnaaGreat
open Go SE
theorem ext_swap64 : IsExt Tryz.prog 271 (Extern.Atomic.swapT (.int .u64)) := ⟨Tryz.f271, by kernel_rfl, by kernel_rfl, by kernel_rfl, by kernel_rfl, by kernel_rfl⟩
noncomputable def tblH : XTbl := (271, swapG .u64) :: tblG
theorem tblH_ok : XOk' Tryz.prog tblH := xok_cons (fun _ _ _ _ hv => .inr (swapX_ok _ _ _ ext_swap64 (swapG_ok hv ⟨rfl, rfl⟩))) tblG_ok
end Go.Proofs.YtlocaplkfaepnaaGreat
end
section
/- Ranges over functions where nothing comes, as operations of closed runs: slices.AppendSeq, limbo.find. -/
namespace Go.Proofs.YtlocaplkfaepnaaGreat
open Go SE
def app0X (xt : XTbl) (run : RunG (AV × Heap)) : XFn := fun args h => match args with
  | [.lit (.slice none 0 0), .fn (.func g) first cap] => bif (lookX xt g).isNone then (match run g (first ++ (.any :: cap)) (h.push (.cells 49 (.av [.lit (.slice none 0 0)]))) (fun v h => .ok (v, h)) with
    | .ok (_, h2) => (match cellAt h2 h.next 0 with
      | some v => some (v, h2)
      | none => none)
    | .no _ => none) else none
  | _ => none
theorem app0X_ok {xt : XTbl} {run : RunG (AV × Heap)} (hr : ∀ g args h K a, lookX xt g = none → run g args h K = .ok a → Sp Tryz.prog g args h (fun v h' => K v h' = .ok a)) {args : List AV} {h h' : Heap} {v : AV} (ho : app0X xt run args h = some (v, h')) :
    Sp Tryz.prog 293 args h (fun v1 h1 => v1 = v ∧ h1 = h') := by
  unfold app0X at ho
  split at ho
  · rename_i g first cap
    cases hc : (lookX xt g).isNone <;> rw [hc] at ho
    · cases ho
    · simp only [cond_true] at ho
      rw [Option.isNone_iff_eq_none] at hc
      split at ho
      · rename_i v2 h2 hrun
        split at ho
        · rename_i v3 hcell
          cases ho
          have hsp := hr _ _ _ _ _ hc hrun
          refine ⟨⟨_, Tryz.func293, by kernel_rfl, by kernel_rfl⟩, fun ρ T w vs hR hl => ?_⟩
          simp only [LRel] at hl
          obtain ⟨u0, _, hvs, hu0, u1, _, rfl, hu1, rfl⟩ := hl
          simp only [VRel] at hu0 hu1
          subst hu0
          obtain ⟨fa, ca, rfl, hfa, hca⟩ := hu1
          have hvs' := vs2 hvs
          rw [hvs']
          obtain ⟨ρ1, le1, e1, lt1, R1, K1⟩ := hR.push_cells (e := 49) (c := .av [.lit (.slice none 0 0)]) (arr := #[.slice none 0 0]) rfl (fun k x hk => by
            cases k with
            | zero => cases hk; exact ⟨_, rfl, by simp [VRel]⟩
            | succ k => simp [Cs.get] at hk)
          have T1 : ∀ b, w.heap.size ≤ b → T b := hR.choose_spec.2.2.2.2
          obtain ⟨W0, hW0⟩ : ∃ W0, w.alloc (.cells #[.slice none 0 0] 49) = W0 := ⟨_, rfl⟩
          have hs0 : W0.heap.size = w.heap.size + 1 := by rw [← hW0]; simp
          rw [hW0] at R1 K1
          refine (app_any g fa ca w (fun r w' => ∃ ρ2 lp, (∀ i, i < h.next → ρ2 i = ρ i) ∧ h.next ≤ h'.next ∧ Rel h' ρ2 (but2 T W0.heap.size (W0.heap.size + 1)) w' ∧ Keeps T w w' ∧ VRel ρ2 v r ∧
            w'.heap[W0.heap.size]? = some (.deferred (some [])) ∧ w'.heap[W0.heap.size + 1]? = some (.loop lp)) hsp.1 fun lp _ _ => ?_).mono ?_
          · rw [hW0, show w.heap.size + 2 = W0.heap.size + 1 by omega, ← hs0]
            have hv : LRel ρ1 (first ++ (.any :: cap)) (fa ++ #[Value.func (.yield (W0.heap.size + 1)) #[] #[]] ++ ca).toList := by
              rw [Array.append_assoc, Array.toList_append, Array.toList_append]
              refine LRel.append (hfa.mono le1) ?_
              exact .cons (by simp [VRel]) (hca.mono le1)
            have hcall := hsp.2 ρ1 _ _ _ (rel_hide R1 (.deferred (some [])) (.loop lp)) hv
            refine hcall.mono ?_
            · rintro e w' ⟨ρ2, v4, u, h3', q1, q2, q3, q4, rfl, q5, hq⟩
              cases hq
              have hD : w'.heap[W0.heap.size]? = some (.deferred (some [])) := by
                rw [q5.block _ (fun hh => hh.2.1 rfl)]
                show ((W0.heap.push _).push _)[W0.heap.size]? = _
                rw [Array.getElem?_push, if_neg (by simp), Array.getElem?_push, if_pos rfl]
              have hL : w'.heap[W0.heap.size + 1]? = some (.loop lp) := by
                rw [q5.block _ (fun hh => hh.2.2 rfl)]
                show ((W0.heap.push _).push _)[W0.heap.size + 1]? = _
                rw [Array.getElem?_push, if_pos (by simp)]
              obtain ⟨a, ha, y, hy, hyr⟩ := q3.cell hcell
              have ha1 : ρ2 h.next = some ⟨w.heap.size, 0, 1⟩ := (q1 _ (by simp)).trans e1
              rw [ha1] at ha
              cases ha
              refine ⟨⟨_, rfl⟩, hD, hL, y, hy, ρ2, lp, fun i hi => (q1 i (by simp; omega)).trans (lt1 i hi), by simp at q2; omega, q3, ?_, hyr, hD, hL⟩
              exact (K1.trans (keeps_hide R1 _ _)).trans (q5.weaken fun _ hh => hh.1)
          · rintro e w2 ⟨r, w', lp, rfl, ⟨ρ2, lp2, q1, q2, q3, q5, q6, hD, hL⟩, rfl⟩
            obtain ⟨R2, K2⟩ := rel_show q3 (T1 _ (by omega)) (T1 _ (by omega)) hD hL (fun _ _ _ hh => by cases hh) (fun _ _ _ hh => by cases hh) (.deferred none) (.loop lp)
            rw [show w.heap.size + 2 = W0.heap.size + 1 by omega, ← hs0]
            exact ⟨ρ2, v, r, h', q1, q2, R2, q6, rfl, q5.trans K2, rfl, rfl⟩
        · cases ho
      · cases ho
  · cases ho
end Go.Proofs.YtlocaplkfaepnaaGreat
end
section
/- The functions that closed runs do not step through, ranges over functions too. -/
namespace Go.Proofs.YtlocaplkfaepnaaGreat
open Go SE
noncomputable def tblR : XTbl := (293, app0X tblH (runH Tryz.prog tblH tt 2000 30)) ::
  tblH
theorem tblR_ok : XOk' Tryz.prog tblR :=
  xok_cons (fun _ _ _ _ hv => .inl (app0X_ok (runH_top tt_ok mixed tblH_ok 2000 30) hv)) <|
  tblH_ok
end Go.Proofs.YtlocaplkfaepnaaGreat
end
section
/- Short words for a device's bytes. -/
namespace Go.Proofs.YtlocaplkfaepnaaGreat
open Go SE
def L8 (k : Int) : PM AV := .node .leaf (some (.lit (v8 k))) .leaf
def N8 (l : PM AV) (k : Int) (r : PM AV) : PM AV := .node l (some (.lit (v8 k))) r
end Go.Proofs.YtlocaplkfaepnaaGreat
end
section
/- What a closed call yields, and the memory behind it: fusee/arena.New. -/
namespace Go.Proofs.YtlocaplkfaepnaaGreat
open Go SE
set_option maxRecDepth 100000
noncomputable section
def sSAV : AV := (AV.tup [(AV.ptr 0 0), (i64 0)])
def sSAO : List AObj := [
(AObj.cells 94 (Cs.av [(AV.ptr 1 0), (AV.ptr 2 0), (AV.ptr 3 0), (AV.ptr 4 0), (AV.ptr 5 0), (AV.ptr 6 0), (AV.ptr 7 0), (AV.ptr 8 0), (u64 0), (u64 0), (AV.lit (Value.slice none 0 0))])),
(AObj.cells 161 (Cs.av [(AV.ptr 9 0), (AV.lit (Value.int IntKind.u32 1)), (AV.lit (Value.int IntKind.i32 0)), (AV.lit (Value.int IntKind.u32 0))])),
(AObj.cells 172 (Cs.av [(AV.sl 10 0 1 1)])),
(AObj.cells 175 (Cs.av [(u64 1), (AV.sl 11 0 1 1)])),
(AObj.cells 215 (Cs.av ([(u64 1), (u64 0), (u64 0), (AV.sl 12 0 1 1)] ++ List.replicate 516 (AV.lit (Value.bool false)) ++ [(AV.lit Value.nilFunc)]))),
(AObj.cells 120 (Cs.av [(AV.lit (Value.slice none 0 0))])),
(AObj.cells 181 (Cs.av [(AV.mp 13), (AV.mp 14), (AV.mp 15), (AV.mp 16), (AV.mp 17), (AV.mp 18), (AV.mp 19), (AV.mp 20)])),
(AObj.cells 218 (Cs.av [(AV.lit (Value.slice none 0 0)), (AV.lit (Value.slice none 0 0)), (AV.lit (Value.slice none 0 0)), (AV.lit (Value.slice none 0 0))])),
(AObj.cells 193 (Cs.av [(AV.lit (Value.slice none 0 0)), (i64 0), (i64 0)])),
(AObj.cells 142 (Cs.av [(AV.sl 21 0 10 10), (i64 2), (i64 2), (i64 1), (i64 0), (i64 0)])),
(AObj.cells 99 (Cs.tr 10 [(i64 0), (AV.lit (Value.bool false)), (AV.lit (Value.bool false)), (AV.lit (Value.bool false)), (AV.lit (Value.bool false)), (AV.lit (Value.bool false)), (AV.lit (Value.bool false)), (AV.lit (Value.bool false)), (AV.lit (Value.bool false)), (i64 0)] (PM.node PM.leaf (some (i64 (-0 - 1))) PM.leaf))),
(AObj.cells 92 (Cs.tr 1 [(u64 0)] PM.leaf)),
(AObj.cells 3 (Cs.tr 1 [(i64 0)] PM.leaf)),
(AObj.map [] 0),
(AObj.map [] 0),
(AObj.map [] 0),
(AObj.map [] 0),
(AObj.map [] 0),
(AObj.map [] 0),
(AObj.map [] 0),
(AObj.map [] 0),
(AObj.cells 256 (Cs.tr 1930 (List.replicate 192 (AV.lit (v8 0)) ++ [(AV.lit (Value.bool false))]) (N8 (N8 (N8 (N8 (N8 (N8 (N8 (N8 (L8 0) 0 (L8 0)) 0 (N8 (L8 0) 0 PM.leaf)) 0 (N8 (N8 (L8 0) 0 PM.leaf) 0 (N8 (L8 0) 0 PM.leaf))) 0 (N8 (N8 (N8 (L8 0) 0 PM.leaf) 0 (N8 (L8 0) 0 PM.leaf)) 0 (N8 (N8 (L8 0) 0 PM.leaf) 0 (N8 (L8 0) 0 PM.leaf)))) 0 (N8 (N8 (N8 (N8 (L8 0) 0 PM.leaf) 0 (N8 (L8 0) 0 PM.leaf)) 0 (N8 (N8 (L8 0) 0 PM.leaf) 0 (N8 (L8 0) 0 PM.leaf))) 0 (N8 (N8 (N8 (L8 0) 0 PM.leaf) 0 (N8 (L8 0) 0 PM.leaf)) 0 (N8 (N8 (L8 0) 0 PM.leaf) 0 (N8 (L8 0) 0 PM.leaf))))) 83 (N8 (N8 (N8 (N8 (N8 (L8 0) 83 PM.leaf) 83 (N8 (L8 0) 0 PM.leaf)) 0 (N8 (N8 (L8 0) 0 PM.leaf) 0 (N8 (L8 0) 0 PM.leaf))) 0 (N8 (N8 (N8 (L8 0) 0 PM.leaf) 0 (N8 (L8 0) 0 PM.leaf)) 0 (N8 (N8 (L8 0) 0 PM.leaf) 0 (N8 (L8 0) 0 PM.leaf)))) 78 (N8 (N8 (N8 (N8 (L8 40) 78 PM.leaf) 78 (N8 (L8 40) 40 PM.leaf)) 0 (N8 (N8 (L8 0) 0 PM.leaf) 0 (N8 (L8 0) 0 PM.leaf))) 0 (N8 (N8 (N8 (L8 0) 0 PM.leaf) 0 (N8 (L8 0) 0 PM.leaf)) 0 (N8 (N8 (L8 0) 0 PM.leaf) 0 (N8 (L8 0) 0 PM.leaf)))))) 70 (N8 (N8 (N8 (N8 (N8 (N8 (L8 3) 70 (PM.node PM.leaf (some (AV.lit (Value.bool false))) PM.leaf)) 70 (N8 (L8 3) 3 PM.leaf)) 0 (N8 (N8 (L8 0) 0 PM.leaf) 0 (N8 (L8 0) 0 PM.leaf))) 0 (N8 (N8 (N8 (L8 0) 0 PM.leaf) 0 (N8 (L8 0) 0 PM.leaf)) 0 (N8 (N8 (L8 0) 0 PM.leaf) 0 (N8 (L8 0) 0 PM.leaf)))) 220 (N8 (N8 (N8 (N8 (L8 0) 220 PM.leaf) 220 (N8 (L8 0) 0 PM.leaf)) 0 (N8 (N8 (L8 0) 0 PM.leaf) 0 (N8 (L8 0) 0 PM.leaf))) 0 (N8 (N8 (N8 (L8 0) 0 PM.leaf) 0 (N8 (L8 0) 0 PM.leaf)) 0 (N8 (N8 (L8 0) 0 PM.leaf) 0 (N8 (L8 0) 0 PM.leaf))))) 10 (N8 (N8 (N8 (N8 (N8 (L8 0) 10 PM.leaf) 10 (N8 (L8 0) 0 PM.leaf)) 0 (N8 (N8 (L8 0) 0 PM.leaf) 0 (N8 (L8 0) 0 PM.leaf))) 0 (N8 (N8 (N8 (L8 0) 0 PM.leaf) 0 (N8 (L8 0) 0 PM.leaf)) 0 (N8 (N8 (L8 0) 0 PM.leaf) 0 (N8 (L8 0) 0 PM.leaf)))) 0 (N8 (N8 (N8 (N8 (L8 223) 0 PM.leaf) 0 (N8 (L8 223) 223 PM.leaf)) 0 (N8 (N8 (L8 0) 0 PM.leaf) 0 (N8 (L8 0) 0 PM.leaf))) 0 (N8 (N8 (N8 (L8 0) 0 PM.leaf) 0 (N8 (L8 0) 0 PM.leaf)) 0 (N8 (N8 (L8 0) 0 PM.leaf) 0 (N8 (L8 0) 0 PM.leaf))))))) 4 (N8 (N8 (N8 (N8 (N8 (N8 (N8 (L8 0) 4 (L8 0)) 4 (PM.node (L8 0) (some (AV.lit (Value.bool false))) PM.leaf)) 0 (N8 (N8 (L8 0) 0 PM.leaf) 0 (N8 (L8 0) 0 PM.leaf))) 0 (N8 (N8 (N8 (L8 0) 0 PM.leaf) 0 (N8 (L8 0) 0 PM.leaf)) 0 (N8 (N8 (L8 0) 0 PM.leaf) 0 (N8 (L8 0) 0 PM.leaf)))) 0 (N8 (N8 (N8 (N8 (L8 0) 0 PM.leaf) 0 (N8 (L8 0) 0 PM.leaf)) 0 (N8 (N8 (L8 0) 0 PM.leaf) 0 (N8 (L8 0) 0 PM.leaf))) 0 (N8 (N8 (N8 (L8 0) 0 PM.leaf) 0 (N8 (L8 0) 0 PM.leaf)) 0 (N8 (N8 (L8 0) 0 PM.leaf) 0 (N8 (L8 0) 0 PM.leaf))))) 69 (N8 (N8 (N8 (N8 (N8 (L8 0) 69 PM.leaf) 69 (N8 (L8 0) 0 PM.leaf)) 0 (N8 (N8 (L8 0) 0 PM.leaf) 0 (N8 (L8 0) 0 PM.leaf))) 0 (N8 (N8 (N8 (L8 0) 0 PM.leaf) 0 (N8 (L8 0) 0 PM.leaf)) 0 (N8 (N8 (L8 0) 0 PM.leaf) 0 (N8 (L8 0) 0 PM.leaf)))) 80 (N8 (N8 (N8 (N8 (L8 132) 80 PM.leaf) 80 (N8 (L8 132) 132 PM.leaf)) 0 (N8 (N8 (L8 0) 0 PM.leaf) 0 (N8 (L8 0) 0 PM.leaf))) 0 (N8 (N8 (N8 (L8 0) 0 PM.leaf) 0 (N8 (L8 0) 0 PM.leaf)) 0 (N8 (N8 (L8 0) 0 PM.leaf) 0 (N8 (L8 0) 0 PM.leaf)))))) 85 (N8 (N8 (N8 (N8 (N8 (N8 (L8 0) 85 PM.leaf) 85 (N8 (L8 0) 0 PM.leaf)) 0 (N8 (N8 (L8 0) 0 PM.leaf) 0 (N8 (L8 0) 0 PM.leaf))) 0 (N8 (N8 (N8 (L8 0) 0 PM.leaf) 0 (N8 (L8 0) 0 PM.leaf)) 0 (N8 (N8 (L8 0) 0 PM.leaf) 0 (N8 (L8 0) 0 PM.leaf)))) 5 (N8 (N8 (N8 (N8 (L8 107) 5 PM.leaf) 5 (N8 (L8 107) 107 PM.leaf)) 0 (N8 (N8 (L8 0) 0 PM.leaf) 0 (N8 (L8 0) 0 PM.leaf))) 0 (N8 (N8 (N8 (L8 0) 0 PM.leaf) 0 (N8 (L8 0) 0 PM.leaf)) 0 (N8 (N8 (L8 0) 0 PM.leaf) 0 (N8 (L8 0) 0 PM.leaf))))) 0 (N8 (N8 (N8 (N8 (N8 (L8 0) 0 PM.leaf) 0 (N8 (L8 0) 0 PM.leaf)) 0 (N8 (N8 (L8 0) 0 PM.leaf) 0 (N8 (L8 0) 0 PM.leaf))) 0 (N8 (N8 (N8 (L8 0) 0 PM.leaf) 0 (N8 (L8 0) 0 PM.leaf)) 0 (N8 (N8 (L8 0) 0 PM.leaf) 0 (N8 (L8 0) 0 PM.leaf)))) 0 (N8 (N8 (N8 (N8 (L8 0) 0 PM.leaf) 0 (N8 (L8 0) 0 PM.leaf)) 0 (N8 (N8 (L8 0) 0 PM.leaf) 0 (N8 (L8 0) 0 PM.leaf))) 0 (N8 (N8 (N8 (L8 0) 0 PM.leaf) 0 (N8 (L8 0) 0 PM.leaf)) 0 (N8 (N8 (L8 0) 0 PM.leaf) 0 (N8 (L8 0) 0 PM.leaf))))))))))]
abbrev sSAM : Nat := 22
def sSAI : List Nat := [21, 8, 7, 3, 5, 9, 10, 19, 20, 1, 6, 2, 4, 11, 12, 13, 14, 15, 16, 17, 18, 0]
end
end Go.Proofs.YtlocaplkfaepnaaGreat
end
section
/- A closed call, run: fusee/arena.New. -/
namespace Go.Proofs.YtlocaplkfaepnaaGreat
open Go SE
set_option maxRecDepth 100000
noncomputable section
theorem sSA_look : lookX tblR 11 = none := by kernel_rfl
theorem sSA_run : runH Tryz.prog tblR tt 2000 40 11 [i64 10, i64 1] (hO 0 []) (told sSAI) = .ok (vmap (atL sSAI) sSAV, sSAO.map fun o => some (omap (atL sSAI) o)) := by kernel_rfl
theorem sSA_sp : Sp Tryz.prog 11 [i64 10, i64 1] (hO 0 []) (fun v h => v = sSAV ∧ h = hO 1 [packed sSAM sSAO]) :=
  stageN (stage tt_ok mixed tblR_ok 2000 40 sSAM sSAI sSAV sSAO sSA_look sSA_run (by kernel_rfl)) (by kernel_rfl) (by kernel_rfl)
end
end Go.Proofs.YtlocaplkfaepnaaGreat
end
section
/- Laws of frames that stay: tables. -/
namespace Go.Proofs.YtlocaplkfaepnaaGreat
open Go SE
noncomputable section
def newC : Ctr := clo0 [i64 10, i64 1] sSAV sSAM sSAO
theorem new_ok : CtrOk Tryz.prog 11 newC := clo0_ok sSA_sp
def nilA : List AV → Bool
  | .lit (.pointer none) :: _ => true
  | _ => false
def nilT (A B : WTr) : WTr := fun args h K => bif nilA args then A args h K else B args h K
def stepT (is : Int → Prop) : WTr := nilT (pickT (ctrT stW) (ctrT stN)) (pickT (ctrT (saW is)) (ctrT (saN is)))
def beginT : WTr := pickT (ctrT beginWC) (ctrT beginNC)
def sameT : WTr := pickT (ctrT sameFW) (ctrT sameFN)
/-- What all of these laws call. -/
def tblN : WTbl := [(32, ctrT weightC), (34, ctrT copyC), (33, beginT), (11, ctrT newC), (35, sameT)]
end
end Go.Proofs.YtlocaplkfaepnaaGreat
end
section
/- Good calls: plain words, contracts. -/
namespace Go.Proofs.YtlocaplkfaepnaaGreat
open Go SE
noncomputable section
def eqB (a b : BA) : Bool := a.toList == b.toList
theorem eL (a b : BA) : (a.toList == b.toList) = eqB a b := rfl
def keyedM (k : Int) : Bool := decide (k = 1) || decide (k = 2) || decide (k = 3)
def groupedM (k : Int) : Bool := decide (k = 2) || decide (k = 3) || decide (k = 4)
def emp (s : BA) : Bool := eqB s ByteArray.empty
def memOk (g : Nat → Mem) (i : Nat) : Bool := groupedM (g i).kind && !(keyedM (g i).kind && emp (g i).key) && decide (∀ j, j < i → (keyedM (g i).kind && keyedM (g j).kind && eqB (g i).key (g j).key) = false)
def shapeM (c : Cll) : Bool := decide (1 ≤ c.kind ∧ c.kind ≤ 8) && !(keyedM c.kind && emp c.key) && (decide (c.kind ≠ 7) || decide (1 ≤ c.gn ∧ c.gn ≤ 3 ∧ ∀ i, i < c.gn → memOk c.g i = true))
def longK (kind : Int) (key value to : BA) : Bool :=
  bif decide (kind = 1) || decide (kind = 3) then decide ((16 : Int) < (key.size : Nat)) else
  bif decide (kind = 2) then decide ((16 : Int) < (key.size : Nat)) || decide ((400 : Int) < (value.size : Nat)) else
  bif decide (kind = 4) then decide ((400 : Int) < (value.size : Nat)) else
  bif decide (kind = 6) then decide ((16 : Int) < (key.size : Nat)) || decide ((16 : Int) < (to.size : Nat)) else false
def longM (c : Cll) : Bool := longK c.kind c.key c.value c.to || (decide (c.kind = 7) && decide (∃ i, i < c.gn ∧ longK (c.g i).kind (c.g i).key (c.g i).value (c.g i).to = true))
def goodM (c : Cll) : Int := bif shapeM c then bif longM c then 5 else 0 else 1
def loopN (f b : Nat) (fr : Nat → List (Nat × AV)) (inv : Nat → Prop) (n : Nat) : FuncId → Anns := fun g => bif Nat.beq g f then (fun b' _ _ => bif Nat.beq b' b then [{ σ := Nat, fr := fr, ob := fun _ => [], inv := fun i => i ≤ n ∧ inv i, meas := fun i => n - i }] else []) else fun _ _ _ => []
def Mem.av (x : Mem) : AV := .agg [i64 x.kind, str x.key, str x.value, str x.to, .lit (.slice x.gp 0 x.gc)]
def keyedC : Ctr := det Int (fun k => [i64 k]) 0 (fun _ => []) (fun _ => True) (fun k => boo (keyedM k)) 0 (fun _ => [])
def groupedC : Ctr := det Int (fun k => [i64 k]) 0 (fun _ => []) (fun _ => True) (fun k => boo (groupedM k)) 0 (fun _ => [])
def longMemC : Ctr := det Mem (fun x => [x.av]) 0 (fun _ => []) (fun _ => True) (fun x => boo (longK x.kind x.key x.value x.to)) 0 (fun _ => [])
def osW (c : Cll) : List AObj := [roomC (rowG c)]
def shapeA : Ctr := det Cll (fun c => [c.av 0]) 1 Cll.os (fun c => Hd c.small) (fun c => boo (shapeM c)) 1 Cll.os
def shapeW : Ctr := det Cll (fun c => [c.avW 0]) 1 osW (fun c => Hd c.small) (fun c => boo (shapeM c)) 1 osW
def shapeN : Ctr := det Cll (fun c => [c.avN]) 0 (fun _ => []) (fun c => Hd (c.gn = 0)) (fun c => boo (shapeM c)) 0 (fun _ => [])
def longA : Ctr := det Cll (fun c => [c.av 0]) 1 Cll.os (fun c => Hd c.small) (fun c => boo (longM c)) 1 Cll.os
def longW : Ctr := det Cll (fun c => [c.avW 0]) 1 osW (fun c => Hd c.small) (fun c => boo (longM c)) 1 osW
def longN : Ctr := det Cll (fun c => [c.avN]) 0 (fun _ => []) (fun c => Hd (c.gn = 0)) (fun c => boo (longM c)) 0 (fun _ => [])
def goodA : Ctr := det Cll (fun c => [c.av 0]) 1 Cll.os (fun c => Hd c.small) (fun c => i64 (goodM c)) 1 Cll.os
def goodW : Ctr := det Cll (fun c => [c.avW 0]) 1 osW (fun c => Hd c.small) (fun c => i64 (goodM c)) 1 osW
def goodN : Ctr := det Cll (fun c => [c.avN]) 0 (fun _ => []) (fun c => Hd (c.gn = 0)) (fun c => i64 (goodM c)) 0 (fun _ => [])
def invMs (c : Cll) (i : Nat) : Prop := ∀ j, j < i → memOk c.g j = true
def clash (c : Cll) (i j : Nat) : Bool := keyedM (c.g i).kind && keyedM (c.g j).kind && eqB (c.g i).key (c.g j).key
def invJ (c : Cll) (i j : Nat) : Prop := ∀ q, q < j → clash c i q = false
def invLong (c : Cll) (i : Nat) : Prop := ∀ j, j < i → longK (c.g j).kind (c.g j).key (c.g j).value (c.g j).to = false
def anShape (c : Cll) : FuncId → Anns := fun f => bif Nat.beq f 228 then (fun b fr _ =>
  bif Nat.beq b 0 then [{ σ := Nat, fr := fun i => [(41, i64 i)], ob := fun _ => [], inv := fun i => i ≤ c.gn ∧ Hd (invMs c i), meas := fun i => c.gn - i }] else
  bif Nat.beq b 2 then [{ σ := Nat, fr := fun j => [(65, i64 j)], ob := fun _ => [], inv := fun j => j ≤ (intAt fr 3).toNat ∧ Hd (invJ c (intAt fr 3).toNat j), meas := fun j => (intAt fr 3).toNat - j }] else []) else fun _ _ _ => []
def anLong (c : Cll) : FuncId → Anns := loopN 295 0 (fun i => [(8, i64 i)]) (fun i => Hd (invLong c i)) c.gn
def tblKG : WTbl := [(267, ctrT keyedC), (268, ctrT groupedC)]
end
end Go.Proofs.YtlocaplkfaepnaaGreat
end
