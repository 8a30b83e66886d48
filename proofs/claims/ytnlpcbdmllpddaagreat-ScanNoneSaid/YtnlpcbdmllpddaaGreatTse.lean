import Derived.Test.YtnlpcbdmllpddaaGreatTsa
import Derived.Test.YtnlpcbdmllpddaaGreatTsb
import Derived.Test.YtnlpcbdmllpddaaGreatTsc
import Derived.Test.YtnlpcbdmllpddaaGreatTsd
import Derived.Test.YtnlpcbdmllpddaaGreatRows
import Derived.KernelRfl
section
/- The words of the seat of those without an arena. -/
namespace Go.Proofs.YtnlpcbdmllpddaaGreat
open Go SE
noncomputable def tt : TT := mkTI Tryz.prog
theorem tt_ok : tt.ok Tryz.prog := fun _ _ h => h
set_option maxRecDepth 20000
theorem mixed : Tryz.prog.follows .mixedOrders = true := by kernel_rfl
def i64 (n : Int) : AV := .lit (.int .i64 n)
end Go.Proofs.YtnlpcbdmllpddaaGreat
end
section
/- Calls that came in, and frames: plain words, contracts. -/
namespace Go.Proofs.YtnlpcbdmllpddaaGreat
open Go SE
noncomputable section
abbrev BA := ByteArray
def noAn : FuncId → Anns := fun _ _ _ _ => []
def str (s : BA) : AV := .lit (.string s)
def boo (b : Bool) : AV := .lit (.bool b)
def u64 (n : Int) : AV := .lit (.int .u64 n)
def nilS : AV := .lit (.slice none 0 0)
def es : BA := ByteArray.mk #[]
def orElseT (A B : WTr) : WTr := fun args h K => A args h K ∨ B args h K
theorem orElseT_ok {P : Program} {f : FuncId} {A B : WTr} (hA : ∀ args h K, A args h K → Sp P f args h K) (hB : ∀ args h K, B args h K → Sp P f args h K) (args : List AV) (h : Heap) (K : AV → Heap → Prop) (hq : orElseT A B args h K) : Sp P f args h K := hq.elim (hA _ _ _) (hB _ _ _)
/-- A call of a group. -/
structure Mem where
  kind : Int
  key : BA
  value : BA
  to : BA
  gp : Option Addr
  gn : Nat
  gc : Nat
def Mem.cells (x : Mem) : List Value := [.int .i64 x.kind, .string x.key, .string x.value, .string x.to, .slice x.gp x.gn x.gc]
/-- Such a call, of no group: as it came in, and copied. -/
def Mem.avE (x : Mem) : AV := .agg [i64 x.kind, str x.key, str x.value, str x.to, .lit (.slice x.gp 0 x.gc)]
/-- Slices of nothing, somewhere. -/
abbrev PS := Nat → Option Addr
def Mem.cellsP (x : Mem) (q : Option Addr) : List Value := [.int .i64 x.kind, .string x.key, .string x.value, .string x.to, .slice q 0 0]
def Mem.avP (x : Mem) (q : Option Addr) : AV := .agg [i64 x.kind, str x.key, str x.value, str x.to, .lit (.slice q 0 0)]
structure Cll where
  kind : Int
  key : BA
  value : BA
  to : BA
  g : Nat → Mem
  gn : Nat
def rowG (c : Cll) : Cs := .row 5 c.gn (fun k => (c.g k).cells) []
def rowP (c : Cll) (ps : PS) : Cs := .row 5 c.gn (fun k => (c.g k).cellsP (ps k)) []
def Cll.hd (c : Cll) : List AV := [i64 c.kind, str c.key, str c.value, str c.to]
def Cll.av (c : Cll) (i : Nat) : AV := .agg (c.hd ++ [.slR i 0 5 c.gn])
def Cll.avN (c : Cll) : AV := .agg (c.hd ++ [nilS])
def Cll.avW (c : Cll) (i : Nat) : AV := .agg (c.hd ++ [.slW i 0 5 c.gn])
def Mem.small (x : Mem) : Prop := x.key.size ≤ 600 ∧ x.value.size ≤ 600 ∧ x.to.size ≤ 600 ∧ x.gn = 0
def Cll.small (c : Cll) : Prop := c.key.size ≤ 600 ∧ c.value.size ≤ 600 ∧ c.to.size ≤ 600 ∧ c.gn ≤ 600 ∧ ∀ k, k < c.gn → (c.g k).small
def Cll.os (c : Cll) : List AObj := [.ro (rowG c)]
def weightC : Ctr := { X := Cll, args := fun c => [c.av 0, i64 600], k := 1, os := Cll.os, pre := fun _ => True, outs := [{ Y := Int, post := fun c y => Hd (y ≤ 600 → c.small), ret := fun _ y => i64 y, m := 1, os := fun c _ => c.os }] }
def invW (c : Cll) (p : Nat × Int) : Prop := 0 ≤ p.2 ∧ p.2 ≤ 1800 * (p.1 + 1) ∧ ∀ k, k < p.1 → (c.g k).small
def anWeight (c : Cll) : FuncId → Anns := fun f => bif Nat.beq f 9 then (fun b _ _ =>
  bif Nat.beq b 0 then [{ σ := Nat × Int, fr := fun p => [(6, i64 p.1), (5, i64 p.2)], ob := fun _ => [], inv := fun p => p.1 ≤ c.gn ∧ Hd (invW c p), meas := fun p => c.gn - p.1 }] else []) else fun _ _ _ => []
/-- A copy: of none, of some. -/
def copyC : Ctr := { X := Cll, args := fun c => [c.av 0], k := 1, os := Cll.os, pre := fun c => Hd c.small, outs := [
  { Y := Unit, post := fun _ _ => True, ret := fun c _ => c.avN, m := 1, os := fun c _ => c.os },
  { Y := Unit, post := fun c _ => Hd (1 ≤ c.gn), ret := fun c _ => c.avW 1, m := 2, os := fun c _ => [.ro (rowG c), .room 24 (rowG c)] }] }
/-- A first frame, of such a call. -/
def frL (hd : List AV) (grp : AV) : List AV := hd ++ [grp, i64 0, u64 0, str es, boo false, i64 0, boo false, str es, u64 0, u64 0, i64 0, i64 0, i64 (-1), i64 0, i64 0, nilS, i64 0, nilS, i64 0, boo false, str es, nilS, nilS, u64 0]
def Cll.frN (c : Cll) : AV := .agg (frL c.hd nilS)
def Cll.frW (c : Cll) (i : Nat) : AV := .agg (frL c.hd (.slW i 0 5 c.gn))
def Mem.fr (x : Mem) (q : Option Addr) : AV := .agg (frL [i64 x.kind, str x.key, str x.value, str x.to] (.lit (.slice q 0 0)))
/-- Copies of slices of nothing. -/
def cloneRC : Ctr := { X := Option Addr × Nat, args := fun x => [.lit (.slice x.1 0 x.2)], k := 0, os := fun _ => [], pre := fun _ => True, outs := [{ Y := Option Addr, post := fun _ _ => True, ret := fun _ q => .lit (.slice q 0 0), m := 0, os := fun _ _ => [] }] }
/-- Such a slice, somewhere. -/
def rawEnd : AV → Prop
  | .lit (.slice _ 0 0) => True
  | .sl _ _ 0 0 => True
  | _ => False
/-- Copies of rows of calls. -/
structure Rw where
  n : Nat
  g : Nat → List Value
def Rw.cs (x : Rw) : Cs := .row 5 x.n x.g []
def roomC (c : Cs) : AObj := .room 24 c
def cloneWC : Ctr := det Rw (fun x => [.slW 0 0 5 x.n]) 1 (fun x => [roomC x.cs]) (fun x => 1 ≤ x.n ∧ x.n ≤ 600) (fun x => .slW 1 0 5 x.n) 2 (fun x => [roomC x.cs, roomC x.cs])
def cloneNC : Ctr := det Unit (fun _ => [nilS]) 0 (fun _ => []) (fun _ => True) (fun _ => nilS) 0 (fun _ => [])
def Cll.ok (c : Cll) : Prop := c.small ∧ 1 ≤ c.gn
def beginMC : Ctr := { X := Mem, args := fun x => [x.avE], k := 0, os := fun _ => [], pre := fun _ => True, outs := [{ Y := Option Addr, post := fun _ _ => True, ret := fun x q => x.fr q, m := 0, os := fun _ _ => [] }] }
def beginNC : Ctr := det Cll (fun c => [c.avN]) 0 (fun _ => []) (fun _ => True) (fun c => c.frN) 0 (fun _ => [])
def beginWC : Ctr := { X := Cll, args := fun c => [c.avW 0], k := 1, os := fun c => [roomC (rowG c)], pre := fun c => Hd c.ok, outs := [{ Y := PS, post := fun _ _ => True, ret := fun c _ => c.frW 1, m := 2, os := fun c ps => [roomC (rowG c), roomC (rowP c ps)] }] }
def idS (fr : Fr) (t : Nat) : Nat := match SE.look fr t with
  | AV.slW i _ _ _ => i
  | AV.slE i _ _ _ _ => i
  | AV.sl i _ _ _ => i
  | _ => 0
def mixG (c : Cll) (ps : PS) (i : Nat) : Cs := .row 5 c.gn (fun k => [.int .i64 (c.g k).kind, .string (c.g k).key, .string (c.g k).value, .string (c.g k).to, .slice (bif Nat.blt k i then ps k else (c.g k).gp) (bif Nat.blt k i then 0 else (c.g k).gn) (bif Nat.blt k i then 0 else (c.g k).gc)]) []
def anBegin (c : Cll) : FuncId → Anns := fun f => bif Nat.beq f 11 then (fun b fr _ =>
  bif Nat.beq b 0 then [{ σ := Nat × PS, fr := fun i => [(12, i64 i.1)], ob := fun i => [(idS fr 10, some (roomC (mixG c i.2 i.1)))], inv := fun i => i.1 ≤ c.gn, meas := fun i => c.gn - i.1 }] else []) else fun _ _ _ => []
/-- Calls of which a part was copied. -/
structure CP where
  c : Cll
  p : PS
def CP.ok (x : CP) : Prop := x.c.ok
def CP.cs (x : CP) : Cs := rowP x.c x.p
def callMC : Ctr := { X := Mem × Option Addr, args := fun x => [x.1.avP x.2], k := 0, os := fun _ => [], pre := fun _ => True, outs := [{ Y := Option Addr, post := fun _ _ => True, ret := fun x q => x.1.avP q, m := 0, os := fun _ _ => [] }] }
def callNC : Ctr := det Cll (fun c => [c.avN]) 0 (fun _ => []) (fun _ => True) (fun c => c.avN) 0 (fun _ => [])
def callWC : Ctr := { X := CP, args := fun x => [x.c.avW 0], k := 1, os := fun x => [roomC x.cs], pre := fun x => Hd x.ok, outs := [{ Y := PS, post := fun _ _ => True, ret := fun x _ => x.c.avW 1, m := 2, os := fun x ps => [roomC x.cs, roomC (rowP x.c ps)] }] }
def mixP (x : CP) (ps : PS) (i : Nat) : Cs := .row 5 x.c.gn (fun k => [.int .i64 (x.c.g k).kind, .string (x.c.g k).key, .string (x.c.g k).value, .string (x.c.g k).to, .slice (bif Nat.blt k i then ps k else x.p k) 0 0]) []
def anCallF (x : CP) : FuncId → Anns := fun f => bif Nat.beq f 102 then (fun b fr _ =>
  bif Nat.beq b 0 then [{ σ := Nat × PS, fr := fun i => [(12, i64 i.1)], ob := fun i => [(idS fr 10, some (roomC (mixP x i.2 i.1)))], inv := fun i => i.1 ≤ x.c.gn, meas := fun i => x.c.gn - i.1 }] else []) else fun _ _ _ => []
def cloneFN : Ctr := det Cll (fun c => [c.frN]) 0 (fun _ => []) (fun _ => True) (fun c => c.frN) 0 (fun _ => [])
def cloneFW : Ctr := { X := CP, args := fun x => [x.c.frW 0], k := 1, os := fun x => [roomC x.cs], pre := fun x => Hd x.ok, outs := [{ Y := PS, post := fun _ _ => True, ret := fun x _ => x.c.frW 1, m := 2, os := fun x ps => [roomC x.cs, roomC (rowP x.c ps)] }] }
structure CQ where
  c : Cll
  p : PS
  q : PS
def CQ.os (x : CQ) : List AObj := [roomC (rowP x.c x.p), roomC (rowP x.c x.q)]
def CQ.ok (x : CQ) : Prop := x.c.ok
def sameCN : Ctr := det Cll (fun c => [c.avN, c.avN]) 0 (fun _ => []) (fun _ => True) (fun _ => boo true) 0 (fun _ => [])
def sameCW : Ctr := det CQ (fun x => [x.c.avW 0, x.c.avW 1]) 2 CQ.os (fun x => Hd x.ok) (fun _ => boo true) 2 CQ.os
def anSame (x : CQ) : FuncId → Anns := fun f => bif Nat.beq f 56 then (fun b _ _ =>
  bif Nat.beq b 0 then [{ σ := Nat, fr := fun i => [(5, i64 i)], ob := fun _ => [], inv := fun i => i ≤ x.c.gn, meas := fun i => x.c.gn - i }] else []) else fun _ _ _ => []
def sameBC : Ctr := det Unit (fun _ => [nilS, nilS]) 0 (fun _ => []) (fun _ => True) (fun _ => boo true) 0 (fun _ => [])
def sameFN : Ctr := det Cll (fun c => [c.frN, c.frN]) 0 (fun _ => []) (fun _ => True) (fun _ => boo true) 0 (fun _ => [])
def sameFW : Ctr := det CQ (fun x => [x.c.frW 0, x.c.frW 1]) 2 CQ.os (fun x => Hd x.ok) (fun _ => boo true) 2 CQ.os
end
end Go.Proofs.YtnlpcbdmllpddaaGreat
end
section
/- What is asked of calls that came in. -/
namespace Go.Proofs.YtnlpcbdmllpddaaGreat
open Go SE
def weightVC_wp (x : Cll) : Prop := wpF Tryz.prog [] tt (anWeight x) 200 6 9 (weightC.args x) (hO weightC.k (weightC.os x)) (fun v h' => endsP weightC.k x v h' weightC.outs)
def weightVC (x : Cll) : Prop :=
  (cP (decide (@GT.gt @Int @Int.instLTInt (((@ByteArray.size (@Cll.key x)) : Nat) : @Int) (600 : @Int))) ((@I64 (601 : @Int)) ∧
  (∃ (y : @Int), ((@Hd ((y ≤ (600 : @Int)) → (@Cll.small x))) ∧
  ((y = (601 : @Int)) ∧
  ((((@rowG x) = (@rowG x)) ∧
  (@Bool.true = @Bool.true)) ∧
  True))))) (cP (decide (@GT.gt @Int @Int.instLTInt (((@ByteArray.size (@Cll.value x)) : Nat) : @Int) (600 : @Int))) ((@I64 (601 : @Int)) ∧
  (∃ (y : @Int), ((@Hd ((y ≤ (600 : @Int)) → (@Cll.small x))) ∧
  ((y = (601 : @Int)) ∧
  ((((@rowG x) = (@rowG x)) ∧
  (@Bool.true = @Bool.true)) ∧
  True))))) (cP (decide (@GT.gt @Int @Int.instLTInt (((@ByteArray.size (@Cll.to x)) : Nat) : @Int) (600 : @Int))) ((@I64 (601 : @Int)) ∧
  (∃ (y : @Int), ((@Hd ((y ≤ (600 : @Int)) → (@Cll.small x))) ∧
  ((y = (601 : @Int)) ∧
  ((((@rowG x) = (@rowG x)) ∧
  (@Bool.true = @Bool.true)) ∧
  True))))) (cP (decide (@GT.gt @Int @Int.instLTInt (((@Cll.gn x) : Nat) : @Int) (600 : @Int))) ((@I64 (601 : @Int)) ∧
  (∃ (y : @Int), ((@Hd ((y ≤ (600 : @Int)) → (@Cll.small x))) ∧
  ((y = (601 : @Int)) ∧
  ((((@rowG x) = (@rowG x)) ∧
  (@Bool.true = @Bool.true)) ∧
  True))))) ((@I64 ((((@ByteArray.size (@Cll.key x)) : Nat) : @Int) + (((@ByteArray.size (@Cll.value x)) : Nat) : @Int))) ∧
  ((@I64 (((((@ByteArray.size (@Cll.key x)) : Nat) : @Int) + (((@ByteArray.size (@Cll.value x)) : Nat) : @Int)) + (((@ByteArray.size (@Cll.to x)) : Nat) : @Int))) ∧
  ((∃ (s : (@Prod @Nat @Int)), ((((@Prod.fst @Nat @Int s) ≤ (@Cll.gn x)) ∧
  (@Hd (@invW x s))) ∧
  (True ∧
  ((((((@Prod.fst @Nat @Int s) : Nat) : @Int) = (0 : @Int)) ∧
  (((@Prod.snd @Nat @Int s) = (((((@ByteArray.size (@Cll.key x)) : Nat) : @Int) + (((@ByteArray.size (@Cll.value x)) : Nat) : @Int)) + (((@ByteArray.size (@Cll.to x)) : Nat) : @Int))) ∧
  True)) ∧
  ((((@Cll.kind x) = (@Cll.kind x)) ∧
  (((@Cll.key x) = (@Cll.key x)) ∧
  (((@Cll.value x) = (@Cll.value x)) ∧
  (((@Cll.to x) = (@Cll.to x)) ∧
  ((((0 : @Nat) = (0 : @Nat)) ∧
  ((@Cll.gn x) = (@Cll.gn x))) ∧
  True))))) ∧
  ((((@rowG x) = (@rowG x)) ∧
  (@Bool.true = @Bool.true)) ∧
  True)))))) ∧
  ((∀ (s : (@Prod @Nat @Int)), ((((@Prod.fst @Nat @Int s) ≤ (@Cll.gn x)) ∧
  (@Hd (@invW x s))) → (cP (decide ((((@Prod.fst @Nat @Int s) : Nat) : @Int) < (((@Cll.gn x) : Nat) : @Int))) (cP (decide ((@Prod.snd @Nat @Int s) ≤ (600 : @Int))) ((((0 : @Int) ≤ (((@Prod.fst @Nat @Int s) : Nat) : @Int)) ∧
  ((((@Prod.fst @Nat @Int s) : Nat) : @Int) < (((@Cll.gn x) : Nat) : @Int))) ∧
  ((((0 : @Nat) + (@Prod.fst @Nat @Int s)) < (@Cll.gn x)) ∧
  (cP (decide (@GT.gt @Int @Int.instLTInt (((@ByteArray.size (@Mem.key (@Cll.g x ((0 : @Nat) + (@Prod.fst @Nat @Int s))))) : Nat) : @Int) (600 : @Int))) ((@I64 (601 : @Int)) ∧
  (∃ (y : @Int), ((@Hd ((y ≤ (600 : @Int)) → (@Cll.small x))) ∧
  ((y = (601 : @Int)) ∧
  ((((@rowG x) = (@rowG x)) ∧
  (@Bool.true = @Bool.true)) ∧
  True))))) (cP (decide (@GT.gt @Int @Int.instLTInt (((@ByteArray.size (@Mem.value (@Cll.g x ((0 : @Nat) + (@Prod.fst @Nat @Int s))))) : Nat) : @Int) (600 : @Int))) ((@I64 (601 : @Int)) ∧
  (∃ (y : @Int), ((@Hd ((y ≤ (600 : @Int)) → (@Cll.small x))) ∧
  ((y = (601 : @Int)) ∧
  ((((@rowG x) = (@rowG x)) ∧
  (@Bool.true = @Bool.true)) ∧
  True))))) (cP (decide (@GT.gt @Int @Int.instLTInt (((@ByteArray.size (@Mem.to (@Cll.g x ((0 : @Nat) + (@Prod.fst @Nat @Int s))))) : Nat) : @Int) (600 : @Int))) ((@I64 (601 : @Int)) ∧
  (∃ (y : @Int), ((@Hd ((y ≤ (600 : @Int)) → (@Cll.small x))) ∧
  ((y = (601 : @Int)) ∧
  ((((@rowG x) = (@rowG x)) ∧
  (@Bool.true = @Bool.true)) ∧
  True))))) (cP (decide (@GT.gt @Int @Int.instLTInt (((@Mem.gn (@Cll.g x ((0 : @Nat) + (@Prod.fst @Nat @Int s)))) : Nat) : @Int) (0 : @Int))) ((@I64 (601 : @Int)) ∧
  (∃ (y : @Int), ((@Hd ((y ≤ (600 : @Int)) → (@Cll.small x))) ∧
  ((y = (601 : @Int)) ∧
  ((((@rowG x) = (@rowG x)) ∧
  (@Bool.true = @Bool.true)) ∧
  True))))) ((@I64 ((@Prod.snd @Nat @Int s) + (((@ByteArray.size (@Mem.key (@Cll.g x ((0 : @Nat) + (@Prod.fst @Nat @Int s))))) : Nat) : @Int))) ∧
  ((@I64 (((@Prod.snd @Nat @Int s) + (((@ByteArray.size (@Mem.key (@Cll.g x ((0 : @Nat) + (@Prod.fst @Nat @Int s))))) : Nat) : @Int)) + (((@ByteArray.size (@Mem.value (@Cll.g x ((0 : @Nat) + (@Prod.fst @Nat @Int s))))) : Nat) : @Int))) ∧
  ((@I64 ((((@Prod.snd @Nat @Int s) + (((@ByteArray.size (@Mem.key (@Cll.g x ((0 : @Nat) + (@Prod.fst @Nat @Int s))))) : Nat) : @Int)) + (((@ByteArray.size (@Mem.value (@Cll.g x ((0 : @Nat) + (@Prod.fst @Nat @Int s))))) : Nat) : @Int)) + (((@ByteArray.size (@Mem.to (@Cll.g x ((0 : @Nat) + (@Prod.fst @Nat @Int s))))) : Nat) : @Int))) ∧
  ((@I64 ((((@Prod.fst @Nat @Int s) : Nat) : @Int) + (1 : @Int))) ∧
  (∃ (s_1 : (@Prod @Nat @Int)), ((((@Prod.fst @Nat @Int s_1) ≤ (@Cll.gn x)) ∧
  (@Hd (@invW x s_1))) ∧
  ((((@Cll.gn x) - (@Prod.fst @Nat @Int s_1)) < ((@Cll.gn x) - (@Prod.fst @Nat @Int s))) ∧
  ((((((@Prod.fst @Nat @Int s_1) : Nat) : @Int) = ((((@Prod.fst @Nat @Int s) : Nat) : @Int) + (1 : @Int))) ∧
  (((@Prod.snd @Nat @Int s_1) = ((((@Prod.snd @Nat @Int s) + (((@ByteArray.size (@Mem.key (@Cll.g x ((0 : @Nat) + (@Prod.fst @Nat @Int s))))) : Nat) : @Int)) + (((@ByteArray.size (@Mem.value (@Cll.g x ((0 : @Nat) + (@Prod.fst @Nat @Int s))))) : Nat) : @Int)) + (((@ByteArray.size (@Mem.to (@Cll.g x ((0 : @Nat) + (@Prod.fst @Nat @Int s))))) : Nat) : @Int))) ∧
  True)) ∧
  ((((@Cll.kind x) = (@Cll.kind x)) ∧
  (((@Cll.key x) = (@Cll.key x)) ∧
  (((@Cll.value x) = (@Cll.value x)) ∧
  (((@Cll.to x) = (@Cll.to x)) ∧
  ((((0 : @Nat) = (0 : @Nat)) ∧
  ((@Cll.gn x) = (@Cll.gn x))) ∧
  True))))) ∧
  ((((@rowG x) = (@rowG x)) ∧
  (@Bool.true = @Bool.true)) ∧
  True)))))))))))))))) ((@I64 (601 : @Int)) ∧
  (∃ (y : @Int), ((@Hd ((y ≤ (600 : @Int)) → (@Cll.small x))) ∧
  ((y = (@imin (@Prod.snd @Nat @Int s) (601 : @Int))) ∧
  ((((@rowG x) = (@rowG x)) ∧
  (@Bool.true = @Bool.true)) ∧
  True)))))) ((@I64 (601 : @Int)) ∧
  (∃ (y : @Int), ((@Hd ((y ≤ (600 : @Int)) → (@Cll.small x))) ∧
  ((y = (@imin (@Prod.snd @Nat @Int s) (601 : @Int))) ∧
  ((((@rowG x) = (@rowG x)) ∧
  (@Bool.true = @Bool.true)) ∧
  True)))))))) ∧
  True))))))))
theorem weightVC_ok (x : Cll) : weightVC x = weightVC_wp x := by kernel_rfl
def copyVC_wp (x : Cll) : Prop := wpF Tryz.prog [] tt noAn 200 6 12 (copyC.args x) (hO copyC.k (copyC.os x)) (fun v h' => endsP copyC.k x v h' copyC.outs)
def copyVC (x : Cll) : Prop :=
  ((((0 : @Nat) + (@Cll.gn x)) ≤ (@Cll.gn x)) ∧
  (cP (@Nat.beq (@Cll.gn x) (0 : @Nat)) ((∃ (y : Unit), (True ∧
  ((((@Cll.kind x) = (@Cll.kind x)) ∧
  (((@Cll.key x) = (@Cll.key x)) ∧
  (((@Cll.value x) = (@Cll.value x)) ∧
  (((@Cll.to x) = (@Cll.to x)) ∧
  (((Value.slice (@Option.none @Addr) (0 : @Nat) (0 : @Nat)) = (Value.slice (@Option.none @Addr) (0 : @Nat) (0 : @Nat))) ∧
  True))))) ∧
  ((((@rowG x) = (@rowG x)) ∧
  (@Bool.true = @Bool.true)) ∧
  True)))) ∨ (∃ (y : Unit), ((@Hd ((1 : @Nat) ≤ (@Cll.gn x))) ∧
  ((((@Cll.kind x) = (@Cll.kind x)) ∧
  (((@Cll.key x) = (@Cll.key x)) ∧
  (((@Cll.value x) = (@Cll.value x)) ∧
  (((@Cll.to x) = (@Cll.to x)) ∧
  (False ∧
  True))))) ∧
  ((((@rowG x) = (@rowG x)) ∧
  (@Bool.true = @Bool.true)) ∧
  ((((@List.length @Value [(Value.int @IntKind.i64 (@Cll.kind x)), (Value.string (@Cll.key x)), (Value.string (@Cll.value x)), (Value.string (@Cll.to x)), (Value.slice (@Option.none @Addr) (0 : @Nat) (0 : @Nat))]) = ((@Cll.gn x) * (5 : @Nat))) ∧
  (∀ (q : @Nat), ((q < (@Cll.gn x)) → ([(Value.int @IntKind.i64 (@Mem.kind (@Cll.g x q))), (Value.string (@Mem.key (@Cll.g x q))), (Value.string (@Mem.value (@Cll.g x q))), (Value.string (@Mem.to (@Cll.g x q))), (Value.slice (@Mem.gp (@Cll.g x q)) (@Mem.gn (@Cll.g x q)) (@Mem.gc (@Cll.g x q)))] = (@List.take @Value (5 : @Nat) (@List.drop @Value (q * (5 : @Nat)) [(Value.int @IntKind.i64 (@Cll.kind x)), (Value.string (@Cll.key x)), (Value.string (@Cll.value x)), (Value.string (@Cll.to x)), (Value.slice (@Option.none @Addr) (0 : @Nat) (0 : @Nat))])))))) ∧
  True)))))) ((((((2 : @Nat) * ((0 : @Nat) + (@Cll.gn x))) + (1000 : @Nat)) * (80 : @Nat)) ≤ (281474976710656 : @Nat)) ∧
  ((∃ (y : Unit), (True ∧
  ((((@Cll.kind x) = (@Cll.kind x)) ∧
  (((@Cll.key x) = (@Cll.key x)) ∧
  (((@Cll.value x) = (@Cll.value x)) ∧
  (((@Cll.to x) = (@Cll.to x)) ∧
  (False ∧
  True))))) ∧
  ((((@rowG x) = (@rowG x)) ∧
  (@Bool.true = @Bool.true)) ∧
  True)))) ∨ (∃ (y : Unit), ((@Hd ((1 : @Nat) ≤ (@Cll.gn x))) ∧
  ((((@Cll.kind x) = (@Cll.kind x)) ∧
  (((@Cll.key x) = (@Cll.key x)) ∧
  (((@Cll.value x) = (@Cll.value x)) ∧
  (((@Cll.to x) = (@Cll.to x)) ∧
  ((((0 : @Nat) = (0 : @Nat)) ∧
  ((@Cll.gn x) = ((0 : @Nat) + (@Cll.gn x)))) ∧
  True))))) ∧
  ((((@rowG x) = (@rowG x)) ∧
  (@Bool.true = @Bool.true)) ∧
  ((((@Cll.gn x) = ((0 : @Nat) + (@Cll.gn x))) ∧
  (∀ (q : @Nat), ((q < (@Cll.gn x)) → ([(Value.int @IntKind.i64 (@Mem.kind (@Cll.g x q))), (Value.string (@Mem.key (@Cll.g x q))), (Value.string (@Mem.value (@Cll.g x q))), (Value.string (@Mem.to (@Cll.g x q))), (Value.slice (@Mem.gp (@Cll.g x q)) (@Mem.gn (@Cll.g x q)) (@Mem.gc (@Cll.g x q)))] = [(Value.int @IntKind.i64 (@Mem.kind (@Cll.g x ((0 : @Nat) + (q - (0 : @Nat)))))), (Value.string (@Mem.key (@Cll.g x ((0 : @Nat) + (q - (0 : @Nat)))))), (Value.string (@Mem.value (@Cll.g x ((0 : @Nat) + (q - (0 : @Nat)))))), (Value.string (@Mem.to (@Cll.g x ((0 : @Nat) + (q - (0 : @Nat)))))), (Value.slice (@Mem.gp (@Cll.g x ((0 : @Nat) + (q - (0 : @Nat))))) (@Mem.gn (@Cll.g x ((0 : @Nat) + (q - (0 : @Nat))))) (@Mem.gc (@Cll.g x ((0 : @Nat) + (q - (0 : @Nat))))))])))) ∧
  True)))))))))
theorem copyVC_ok (x : Cll) : copyVC x = copyVC_wp x := by kernel_rfl
def cloneRSVC_wp (a : Addr) (n : Nat) : Prop := wpF Tryz.prog [] tt noAn 200 6 43 [.lit (.slice (some a) 0 n)] (hO 0 []) (fun v _ => rawEnd v)
def cloneRSVC (a : Addr) (n : Nat) : Prop :=
  True
theorem cloneRSVC_ok (a : Addr) (n : Nat) : cloneRSVC a n = cloneRSVC_wp a n := by kernel_rfl
def cloneRNVC_wp (n : Nat) : Prop := wpF Tryz.prog [] tt noAn 200 6 43 [.lit (.slice none 0 n)] (hO 0 []) (fun v _ => rawEnd v)
def cloneRNVC (n : Nat) : Prop :=
  True
theorem cloneRNVC_ok (n : Nat) : cloneRNVC n = cloneRNVC_wp n := by kernel_rfl
def cloneWVC_wp (x : Rw) : Prop := wpF Tryz.prog [] tt noAn 200 6 43 (cloneWC.args x) (hO cloneWC.k (cloneWC.os x)) (fun v h' => endsP cloneWC.k x v h' cloneWC.outs)
def cloneWVC (x : Rw) : Prop :=
  ((((0 : @Nat) + (@Rw.n x)) ≤ (@Rw.n x)) ∧
  (cP (@Nat.beq (@Rw.n x) (0 : @Nat)) (∃ (y : Unit), (True ∧
  ((((@Rw.n x) = (0 : @Nat)) ∧
  (((0 : @Nat) = (0 : @Nat)) ∧
  ((0 : @Nat) = (0 : @Nat)))) ∧
  ((((@Rw.n x) = (@Rw.n x)) ∧
  (∀ (q : @Nat), ((q < (@Rw.n x)) → ((@Cs.eff (@Rw.g x) (@List.nil (@Prod @Nat (@List @Value))) q) = (@Cs.eff (@Rw.g x) (@List.nil (@Prod @Nat (@List @Value))) q))))) ∧
  ((((0 : @Nat) = ((@Rw.n x) * (5 : @Nat))) ∧
  (∀ (q : @Nat), ((q < (@Rw.n x)) → ((@Cs.eff (@Rw.g x) (@List.nil (@Prod @Nat (@List @Value))) q) = (@List.take @Value (5 : @Nat) (@List.drop @Value (q * (5 : @Nat)) (@List.nil @Value))))))) ∧
  True))))) ((((((2 : @Nat) * ((0 : @Nat) + (@Rw.n x))) + (1000 : @Nat)) * (80 : @Nat)) ≤ (281474976710656 : @Nat)) ∧
  (∃ (y : Unit), (True ∧
  ((((0 : @Nat) = (0 : @Nat)) ∧
  ((@Rw.n x) = ((0 : @Nat) + (@Rw.n x)))) ∧
  ((((@Rw.n x) = (@Rw.n x)) ∧
  (∀ (q : @Nat), ((q < (@Rw.n x)) → ((@Cs.eff (@Rw.g x) (@List.nil (@Prod @Nat (@List @Value))) q) = (@Cs.eff (@Rw.g x) (@List.nil (@Prod @Nat (@List @Value))) q))))) ∧
  ((((@Rw.n x) = ((0 : @Nat) + (@Rw.n x))) ∧
  (∀ (q : @Nat), ((q < (@Rw.n x)) → ((@Cs.eff (@Rw.g x) (@List.nil (@Prod @Nat (@List @Value))) q) = (@Cs.eff (fun (q_1 : @Nat) => (@cond (@List @Value) (@Nat.blt q_1 (0 : @Nat)) (@List.nil @Value) (@Cs.eff (@Rw.g x) (@List.nil (@Prod @Nat (@List @Value))) ((0 : @Nat) + (q_1 - (0 : @Nat)))))) (@List.nil (@Prod @Nat (@List @Value))) q))))) ∧
  True))))))))
theorem cloneWVC_ok (x : Rw) : cloneWVC x = cloneWVC_wp x := by kernel_rfl
def beginMVC_wp (x : Mem) : Prop := wpF Tryz.prog [(43, ctrT cloneRC)] tt noAn 200 6 11 (beginMC.args x) (hO beginMC.k (beginMC.os x)) (fun v h' => endsP beginMC.k x v h' beginMC.outs)
def beginMVC (x : Mem) : Prop :=
  (∃ (x_1 : (@Prod (@Option @Addr) @Nat)), (True ∧
  ((((Value.slice (@Prod.fst (@Option @Addr) @Nat x_1) (0 : @Nat) (@Prod.snd (@Option @Addr) @Nat x_1)) = (Value.slice (@Mem.gp x) (0 : @Nat) (@Mem.gc x))) ∧
  True) ∧
  (True ∧
  (∀ (y : (@Option @Addr)), (True → (∃ (y_1 : (@Option @Addr)), (True ∧
  ((((@Mem.kind x) = (@Mem.kind x)) ∧
  (((@Mem.key x) = (@Mem.key x)) ∧
  (((@Mem.value x) = (@Mem.value x)) ∧
  (((@Mem.to x) = (@Mem.to x)) ∧
  (((Value.slice y_1 (0 : @Nat) (0 : @Nat)) = (Value.slice y (0 : @Nat) (0 : @Nat))) ∧
  (((0 : @Int) = (0 : @Int)) ∧
  (((0 : @Int) = (0 : @Int)) ∧
  ((@es = (@ByteArray.mk (@List.toArray @UInt8 (@List.nil @UInt8)))) ∧
  ((@Bool.false = @Bool.false) ∧
  (((0 : @Int) = (0 : @Int)) ∧
  ((@Bool.false = @Bool.false) ∧
  ((@es = (@ByteArray.mk (@List.toArray @UInt8 (@List.nil @UInt8)))) ∧
  (((0 : @Int) = (0 : @Int)) ∧
  (((0 : @Int) = (0 : @Int)) ∧
  (((0 : @Int) = (0 : @Int)) ∧
  (((0 : @Int) = (0 : @Int)) ∧
  (((-(1 : @Int)) = (-(1 : @Int))) ∧
  (((0 : @Int) = (0 : @Int)) ∧
  (((0 : @Int) = (0 : @Int)) ∧
  (((Value.slice (@Option.none @Addr) (0 : @Nat) (0 : @Nat)) = (Value.slice (@Option.none @Addr) (0 : @Nat) (0 : @Nat))) ∧
  (((0 : @Int) = (0 : @Int)) ∧
  (((Value.slice (@Option.none @Addr) (0 : @Nat) (0 : @Nat)) = (Value.slice (@Option.none @Addr) (0 : @Nat) (0 : @Nat))) ∧
  (((0 : @Int) = (0 : @Int)) ∧
  ((@Bool.false = @Bool.false) ∧
  ((@es = (@ByteArray.mk (@List.toArray @UInt8 (@List.nil @UInt8)))) ∧
  (((Value.slice (@Option.none @Addr) (0 : @Nat) (0 : @Nat)) = (Value.slice (@Option.none @Addr) (0 : @Nat) (0 : @Nat))) ∧
  (((Value.slice (@Option.none @Addr) (0 : @Nat) (0 : @Nat)) = (Value.slice (@Option.none @Addr) (0 : @Nat) (0 : @Nat))) ∧
  (((0 : @Int) = (0 : @Int)) ∧
  True)))))))))))))))))))))))))))) ∧
  True)))))))))
theorem beginMVC_ok (x : Mem) : beginMVC x = beginMVC_wp x := by kernel_rfl
def beginNVC_wp (x : Cll) : Prop := wpF Tryz.prog [(43, ctrT cloneNC)] tt noAn 200 6 11 (beginNC.args x) (hO beginNC.k (beginNC.os x)) (fun v h' => endsP beginNC.k x v h' beginNC.outs)
def beginNVC (x : Cll) : Prop :=
  (∃ (x_1 : Unit), (True ∧
  ((((Value.slice (@Option.none @Addr) (0 : @Nat) (0 : @Nat)) = (Value.slice (@Option.none @Addr) (0 : @Nat) (0 : @Nat))) ∧
  True) ∧
  (True ∧
  (∀ (y : Unit), (True → (∃ (y_1 : Unit), (True ∧
  ((((@Cll.kind x) = (@Cll.kind x)) ∧
  (((@Cll.key x) = (@Cll.key x)) ∧
  (((@Cll.value x) = (@Cll.value x)) ∧
  (((@Cll.to x) = (@Cll.to x)) ∧
  (((Value.slice (@Option.none @Addr) (0 : @Nat) (0 : @Nat)) = (Value.slice (@Option.none @Addr) (0 : @Nat) (0 : @Nat))) ∧
  (((0 : @Int) = (0 : @Int)) ∧
  (((0 : @Int) = (0 : @Int)) ∧
  ((@es = (@ByteArray.mk (@List.toArray @UInt8 (@List.nil @UInt8)))) ∧
  ((@Bool.false = @Bool.false) ∧
  (((0 : @Int) = (0 : @Int)) ∧
  ((@Bool.false = @Bool.false) ∧
  ((@es = (@ByteArray.mk (@List.toArray @UInt8 (@List.nil @UInt8)))) ∧
  (((0 : @Int) = (0 : @Int)) ∧
  (((0 : @Int) = (0 : @Int)) ∧
  (((0 : @Int) = (0 : @Int)) ∧
  (((0 : @Int) = (0 : @Int)) ∧
  (((-(1 : @Int)) = (-(1 : @Int))) ∧
  (((0 : @Int) = (0 : @Int)) ∧
  (((0 : @Int) = (0 : @Int)) ∧
  (((Value.slice (@Option.none @Addr) (0 : @Nat) (0 : @Nat)) = (Value.slice (@Option.none @Addr) (0 : @Nat) (0 : @Nat))) ∧
  (((0 : @Int) = (0 : @Int)) ∧
  (((Value.slice (@Option.none @Addr) (0 : @Nat) (0 : @Nat)) = (Value.slice (@Option.none @Addr) (0 : @Nat) (0 : @Nat))) ∧
  (((0 : @Int) = (0 : @Int)) ∧
  ((@Bool.false = @Bool.false) ∧
  ((@es = (@ByteArray.mk (@List.toArray @UInt8 (@List.nil @UInt8)))) ∧
  (((Value.slice (@Option.none @Addr) (0 : @Nat) (0 : @Nat)) = (Value.slice (@Option.none @Addr) (0 : @Nat) (0 : @Nat))) ∧
  (((Value.slice (@Option.none @Addr) (0 : @Nat) (0 : @Nat)) = (Value.slice (@Option.none @Addr) (0 : @Nat) (0 : @Nat))) ∧
  (((0 : @Int) = (0 : @Int)) ∧
  True)))))))))))))))))))))))))))) ∧
  True)))))))))
theorem beginNVC_ok (x : Cll) : beginNVC x = beginNVC_wp x := by kernel_rfl
def beginWVC_wp (x : Cll) : Prop := wpF Tryz.prog [(43, ctrT cloneWC), (11, ctrT beginMC)] tt (anBegin x) 200 6 11 (beginWC.args x) (hO beginWC.k (beginWC.os x)) (fun v h' => endsP beginWC.k x v h' beginWC.outs)
def beginWVC (x : Cll) : Prop :=
  (∃ (x_1 : @Rw), ((((1 : @Nat) ≤ (@Rw.n x_1)) ∧
  ((@Rw.n x_1) ≤ (600 : @Nat))) ∧
  (((((0 : @Nat) = (0 : @Nat)) ∧
  ((@Rw.n x_1) = (@Cll.gn x))) ∧
  True) ∧
  (((((@Rw.n x_1) = (@Cll.gn x)) ∧
  (∀ (q : @Nat), ((q < (@Rw.n x_1)) → ((@Cs.eff (@Rw.g x_1) (@List.nil (@Prod @Nat (@List @Value))) q) = [(Value.int @IntKind.i64 (@Mem.kind (@Cll.g x q))), (Value.string (@Mem.key (@Cll.g x q))), (Value.string (@Mem.value (@Cll.g x q))), (Value.string (@Mem.to (@Cll.g x q))), (Value.slice (@Mem.gp (@Cll.g x q)) (@Mem.gn (@Cll.g x q)) (@Mem.gc (@Cll.g x q)))])))) ∧
  True) ∧
  (∀ (y : Unit), (True → ((∃ (s : (@Prod @Nat @PS)), (((@Prod.fst @Nat @PS s) ≤ (@Cll.gn x)) ∧
  (True ∧
  ((((((@Prod.fst @Nat @PS s) : Nat) : @Int) = (0 : @Int)) ∧
  True) ∧
  ((((@Cll.gn x) = (@Rw.n x_1)) ∧
  (∀ (q : @Nat), ((q < (@Cll.gn x)) → ([(Value.int @IntKind.i64 (@Mem.kind (@Cll.g x q))), (Value.string (@Mem.key (@Cll.g x q))), (Value.string (@Mem.value (@Cll.g x q))), (Value.string (@Mem.to (@Cll.g x q))), (Value.slice (@cond (@Option @Addr) (@Nat.blt q (@Prod.fst @Nat @PS s)) (@Prod.snd @Nat @PS s q) (@Mem.gp (@Cll.g x q))) (@cond @Nat (@Nat.blt q (@Prod.fst @Nat @PS s)) (0 : @Nat) (@Mem.gn (@Cll.g x q))) (@cond @Nat (@Nat.blt q (@Prod.fst @Nat @PS s)) (0 : @Nat) (@Mem.gc (@Cll.g x q))))] = (@Cs.eff (@Rw.g x_1) (@List.nil (@Prod @Nat (@List @Value))) q))))) ∧
  ((((0 : @Int) = (0 : @Int)) ∧
  (((@ByteArray.mk (@List.toArray @UInt8 (@List.nil @UInt8))) = (@ByteArray.mk (@List.toArray @UInt8 (@List.nil @UInt8)))) ∧
  (((@ByteArray.mk (@List.toArray @UInt8 (@List.nil @UInt8))) = (@ByteArray.mk (@List.toArray @UInt8 (@List.nil @UInt8)))) ∧
  (((@ByteArray.mk (@List.toArray @UInt8 (@List.nil @UInt8))) = (@ByteArray.mk (@List.toArray @UInt8 (@List.nil @UInt8)))) ∧
  (((Value.slice (@Option.none @Addr) (0 : @Nat) (0 : @Nat)) = (Value.slice (@Option.none @Addr) (0 : @Nat) (0 : @Nat))) ∧
  (((0 : @Int) = (0 : @Int)) ∧
  (((0 : @Int) = (0 : @Int)) ∧
  (((@ByteArray.mk (@List.toArray @UInt8 (@List.nil @UInt8))) = (@ByteArray.mk (@List.toArray @UInt8 (@List.nil @UInt8)))) ∧
  ((@Bool.false = @Bool.false) ∧
  (((0 : @Int) = (0 : @Int)) ∧
  ((@Bool.false = @Bool.false) ∧
  (((@ByteArray.mk (@List.toArray @UInt8 (@List.nil @UInt8))) = (@ByteArray.mk (@List.toArray @UInt8 (@List.nil @UInt8)))) ∧
  (((0 : @Int) = (0 : @Int)) ∧
  (((0 : @Int) = (0 : @Int)) ∧
  (((0 : @Int) = (0 : @Int)) ∧
  (((0 : @Int) = (0 : @Int)) ∧
  (((0 : @Int) = (0 : @Int)) ∧
  (((0 : @Int) = (0 : @Int)) ∧
  (((0 : @Int) = (0 : @Int)) ∧
  (((Value.slice (@Option.none @Addr) (0 : @Nat) (0 : @Nat)) = (Value.slice (@Option.none @Addr) (0 : @Nat) (0 : @Nat))) ∧
  (((0 : @Int) = (0 : @Int)) ∧
  (((Value.slice (@Option.none @Addr) (0 : @Nat) (0 : @Nat)) = (Value.slice (@Option.none @Addr) (0 : @Nat) (0 : @Nat))) ∧
  (((0 : @Int) = (0 : @Int)) ∧
  ((@Bool.false = @Bool.false) ∧
  (((@ByteArray.mk (@List.toArray @UInt8 (@List.nil @UInt8))) = (@ByteArray.mk (@List.toArray @UInt8 (@List.nil @UInt8)))) ∧
  (((Value.slice (@Option.none @Addr) (0 : @Nat) (0 : @Nat)) = (Value.slice (@Option.none @Addr) (0 : @Nat) (0 : @Nat))) ∧
  (((Value.slice (@Option.none @Addr) (0 : @Nat) (0 : @Nat)) = (Value.slice (@Option.none @Addr) (0 : @Nat) (0 : @Nat))) ∧
  (((0 : @Int) = (0 : @Int)) ∧
  True)))))))))))))))))))))))))))) ∧
  ((((@Cll.kind x) = (@Cll.kind x)) ∧
  (((@Cll.key x) = (@Cll.key x)) ∧
  (((@Cll.value x) = (@Cll.value x)) ∧
  (((@Cll.to x) = (@Cll.to x)) ∧
  ((((0 : @Nat) = (0 : @Nat)) ∧
  ((@Rw.n x_1) = (@Rw.n x_1))) ∧
  True))))) ∧
  ((((@Rw.n x_1) = (@Rw.n x_1)) ∧
  (∀ (q : @Nat), ((q < (@Rw.n x_1)) → ((@Cs.eff (@Rw.g x_1) (@List.nil (@Prod @Nat (@List @Value))) q) = (@Cs.eff (@Rw.g x_1) (@List.nil (@Prod @Nat (@List @Value))) q))))) ∧
  True)))))))) ∧
  ((∀ (s : (@Prod @Nat @PS)), (((@Prod.fst @Nat @PS s) ≤ (@Cll.gn x)) → (cP (decide ((((@Prod.fst @Nat @PS s) : Nat) : @Int) < (((@Rw.n x_1) : Nat) : @Int))) ((((0 : @Int) ≤ (((@Prod.fst @Nat @PS s) : Nat) : @Int)) ∧
  ((((@Prod.fst @Nat @PS s) : Nat) : @Int) < (((@Rw.n x_1) : Nat) : @Int))) ∧
  ((((0 : @Nat) + (@Prod.fst @Nat @PS s)) < (@Cll.gn x)) ∧
  (∃ (x_2 : @Mem), (True ∧
  (((((@Mem.kind x_2) = (@Mem.kind (@Cll.g x ((0 : @Nat) + (@Prod.fst @Nat @PS s))))) ∧
  (((@Mem.key x_2) = (@Mem.key (@Cll.g x ((0 : @Nat) + (@Prod.fst @Nat @PS s))))) ∧
  (((@Mem.value x_2) = (@Mem.value (@Cll.g x ((0 : @Nat) + (@Prod.fst @Nat @PS s))))) ∧
  (((@Mem.to x_2) = (@Mem.to (@Cll.g x ((0 : @Nat) + (@Prod.fst @Nat @PS s))))) ∧
  (((Value.slice (@Mem.gp x_2) (0 : @Nat) (@Mem.gc x_2)) = (Value.slice (@cond (@Option @Addr) (@Nat.blt ((0 : @Nat) + (@Prod.fst @Nat @PS s)) (@Prod.fst @Nat @PS s)) (@Prod.snd @Nat @PS s ((0 : @Nat) + (@Prod.fst @Nat @PS s))) (@Mem.gp (@Cll.g x ((0 : @Nat) + (@Prod.fst @Nat @PS s))))) (@cond @Nat (@Nat.blt ((0 : @Nat) + (@Prod.fst @Nat @PS s)) (@Prod.fst @Nat @PS s)) (0 : @Nat) (@Mem.gn (@Cll.g x ((0 : @Nat) + (@Prod.fst @Nat @PS s))))) (@cond @Nat (@Nat.blt ((0 : @Nat) + (@Prod.fst @Nat @PS s)) (@Prod.fst @Nat @PS s)) (0 : @Nat) (@Mem.gc (@Cll.g x ((0 : @Nat) + (@Prod.fst @Nat @PS s))))))) ∧
  True))))) ∧
  True) ∧
  (True ∧
  (∀ (y_1 : (@Option @Addr)), (True → ((((AV.slW (3 : Nat) (0 : @Nat) (5 : @Nat) (@Rw.n x_1)) = (AV.slW (3 : Nat) (0 : @Nat) (5 : @Nat) (@Rw.n x_1))) ∧
  True) ∧
  ((((0 : @Int) ≤ (((@Prod.fst @Nat @PS s) : Nat) : @Int)) ∧
  ((((@Prod.fst @Nat @PS s) : Nat) : @Int) < (((@Rw.n x_1) : Nat) : @Int))) ∧
  ((((0 : @Nat) + (@Prod.fst @Nat @PS s)) < (@Cll.gn x)) ∧
  (True ∧
  ((@I64 ((((@Prod.fst @Nat @PS s) : Nat) : @Int) + (1 : @Int))) ∧
  (∃ (s_1 : (@Prod @Nat @PS)), (((@Prod.fst @Nat @PS s_1) ≤ (@Cll.gn x)) ∧
  ((((@Cll.gn x) - (@Prod.fst @Nat @PS s_1)) < ((@Cll.gn x) - (@Prod.fst @Nat @PS s))) ∧
  ((((((@Prod.fst @Nat @PS s_1) : Nat) : @Int) = ((((@Prod.fst @Nat @PS s) : Nat) : @Int) + (1 : @Int))) ∧
  True) ∧
  ((((@Cll.gn x) = (@Cll.gn x)) ∧
  (∀ (q : @Nat), ((q < (@Cll.gn x)) → ([(Value.int @IntKind.i64 (@Mem.kind (@Cll.g x q))), (Value.string (@Mem.key (@Cll.g x q))), (Value.string (@Mem.value (@Cll.g x q))), (Value.string (@Mem.to (@Cll.g x q))), (Value.slice (@cond (@Option @Addr) (@Nat.blt q (@Prod.fst @Nat @PS s_1)) (@Prod.snd @Nat @PS s_1 q) (@Mem.gp (@Cll.g x q))) (@cond @Nat (@Nat.blt q (@Prod.fst @Nat @PS s_1)) (0 : @Nat) (@Mem.gn (@Cll.g x q))) (@cond @Nat (@Nat.blt q (@Prod.fst @Nat @PS s_1)) (0 : @Nat) (@Mem.gc (@Cll.g x q))))] = (@Cs.eff (fun (k : @Nat) => [(Value.int @IntKind.i64 (@Mem.kind (@Cll.g x k))), (Value.string (@Mem.key (@Cll.g x k))), (Value.string (@Mem.value (@Cll.g x k))), (Value.string (@Mem.to (@Cll.g x k))), (Value.slice (@cond (@Option @Addr) (@Nat.blt k (@Prod.fst @Nat @PS s)) (@Prod.snd @Nat @PS s k) (@Mem.gp (@Cll.g x k))) (@cond @Nat (@Nat.blt k (@Prod.fst @Nat @PS s)) (0 : @Nat) (@Mem.gn (@Cll.g x k))) (@cond @Nat (@Nat.blt k (@Prod.fst @Nat @PS s)) (0 : @Nat) (@Mem.gc (@Cll.g x k))))]) [(@Prod.mk @Nat (@List @Value) ((0 : @Nat) + (@Prod.fst @Nat @PS s)) [(Value.int @IntKind.i64 (@Mem.kind (@Cll.g x ((0 : @Nat) + (@Prod.fst @Nat @PS s))))), (Value.string (@Mem.key (@Cll.g x ((0 : @Nat) + (@Prod.fst @Nat @PS s))))), (Value.string (@Mem.value (@Cll.g x ((0 : @Nat) + (@Prod.fst @Nat @PS s))))), (Value.string (@Mem.to (@Cll.g x ((0 : @Nat) + (@Prod.fst @Nat @PS s))))), (Value.slice y_1 (0 : @Nat) (0 : @Nat))])] q))))) ∧
  ((((0 : @Int) = (0 : @Int)) ∧
  (((@ByteArray.mk (@List.toArray @UInt8 (@List.nil @UInt8))) = (@ByteArray.mk (@List.toArray @UInt8 (@List.nil @UInt8)))) ∧
  (((@ByteArray.mk (@List.toArray @UInt8 (@List.nil @UInt8))) = (@ByteArray.mk (@List.toArray @UInt8 (@List.nil @UInt8)))) ∧
  (((@ByteArray.mk (@List.toArray @UInt8 (@List.nil @UInt8))) = (@ByteArray.mk (@List.toArray @UInt8 (@List.nil @UInt8)))) ∧
  (((Value.slice (@Option.none @Addr) (0 : @Nat) (0 : @Nat)) = (Value.slice (@Option.none @Addr) (0 : @Nat) (0 : @Nat))) ∧
  (((0 : @Int) = (0 : @Int)) ∧
  (((0 : @Int) = (0 : @Int)) ∧
  (((@ByteArray.mk (@List.toArray @UInt8 (@List.nil @UInt8))) = (@ByteArray.mk (@List.toArray @UInt8 (@List.nil @UInt8)))) ∧
  ((@Bool.false = @Bool.false) ∧
  (((0 : @Int) = (0 : @Int)) ∧
  ((@Bool.false = @Bool.false) ∧
  (((@ByteArray.mk (@List.toArray @UInt8 (@List.nil @UInt8))) = (@ByteArray.mk (@List.toArray @UInt8 (@List.nil @UInt8)))) ∧
  (((0 : @Int) = (0 : @Int)) ∧
  (((0 : @Int) = (0 : @Int)) ∧
  (((0 : @Int) = (0 : @Int)) ∧
  (((0 : @Int) = (0 : @Int)) ∧
  (((0 : @Int) = (0 : @Int)) ∧
  (((0 : @Int) = (0 : @Int)) ∧
  (((0 : @Int) = (0 : @Int)) ∧
  (((Value.slice (@Option.none @Addr) (0 : @Nat) (0 : @Nat)) = (Value.slice (@Option.none @Addr) (0 : @Nat) (0 : @Nat))) ∧
  (((0 : @Int) = (0 : @Int)) ∧
  (((Value.slice (@Option.none @Addr) (0 : @Nat) (0 : @Nat)) = (Value.slice (@Option.none @Addr) (0 : @Nat) (0 : @Nat))) ∧
  (((0 : @Int) = (0 : @Int)) ∧
  ((@Bool.false = @Bool.false) ∧
  (((@ByteArray.mk (@List.toArray @UInt8 (@List.nil @UInt8))) = (@ByteArray.mk (@List.toArray @UInt8 (@List.nil @UInt8)))) ∧
  (((Value.slice (@Option.none @Addr) (0 : @Nat) (0 : @Nat)) = (Value.slice (@Option.none @Addr) (0 : @Nat) (0 : @Nat))) ∧
  (((Value.slice (@Option.none @Addr) (0 : @Nat) (0 : @Nat)) = (Value.slice (@Option.none @Addr) (0 : @Nat) (0 : @Nat))) ∧
  (((0 : @Int) = (0 : @Int)) ∧
  True)))))))))))))))))))))))))))) ∧
  ((((@Cll.kind x) = (@Cll.kind x)) ∧
  (((@Cll.key x) = (@Cll.key x)) ∧
  (((@Cll.value x) = (@Cll.value x)) ∧
  (((@Cll.to x) = (@Cll.to x)) ∧
  ((((0 : @Nat) = (0 : @Nat)) ∧
  ((@Rw.n x_1) = (@Rw.n x_1))) ∧
  True))))) ∧
  ((((@Rw.n x_1) = (@Rw.n x_1)) ∧
  (∀ (q : @Nat), ((q < (@Rw.n x_1)) → ((@Cs.eff (@Rw.g x_1) (@List.nil (@Prod @Nat (@List @Value))) q) = (@Cs.eff (@Rw.g x_1) (@List.nil (@Prod @Nat (@List @Value))) q))))) ∧
  True))))))))))))))))))))) (∃ (y_1 : (@Out.Y @Cll (@Out.mk @Cll @PS (fun (x_2 : @Cll) => (fun (x_3 : @PS) => True)) (fun (c : @Cll) => (fun (x_2 : @PS) => (@Cll.frW c (1 : @Nat)))) (2 : @Nat) (fun (c : @Cll) => (fun (ps : @PS) => [(@roomC (@rowG c)), (@roomC (@rowP c ps))]))))), (True ∧
  ((((@Cll.kind x) = (@Cll.kind x)) ∧
  (((@Cll.key x) = (@Cll.key x)) ∧
  (((@Cll.value x) = (@Cll.value x)) ∧
  (((@Cll.to x) = (@Cll.to x)) ∧
  ((((0 : @Nat) = (0 : @Nat)) ∧
  ((@Cll.gn x) = (@Rw.n x_1))) ∧
  (((0 : @Int) = (0 : @Int)) ∧
  (((0 : @Int) = (0 : @Int)) ∧
  ((@es = (@ByteArray.mk (@List.toArray @UInt8 (@List.nil @UInt8)))) ∧
  ((@Bool.false = @Bool.false) ∧
  (((0 : @Int) = (0 : @Int)) ∧
  ((@Bool.false = @Bool.false) ∧
  ((@es = (@ByteArray.mk (@List.toArray @UInt8 (@List.nil @UInt8)))) ∧
  (((0 : @Int) = (0 : @Int)) ∧
  (((0 : @Int) = (0 : @Int)) ∧
  (((0 : @Int) = (0 : @Int)) ∧
  (((0 : @Int) = (0 : @Int)) ∧
  (((-(1 : @Int)) = (-(1 : @Int))) ∧
  (((0 : @Int) = (0 : @Int)) ∧
  (((0 : @Int) = (0 : @Int)) ∧
  (((Value.slice (@Option.none @Addr) (0 : @Nat) (0 : @Nat)) = (Value.slice (@Option.none @Addr) (0 : @Nat) (0 : @Nat))) ∧
  (((0 : @Int) = (0 : @Int)) ∧
  (((Value.slice (@Option.none @Addr) (0 : @Nat) (0 : @Nat)) = (Value.slice (@Option.none @Addr) (0 : @Nat) (0 : @Nat))) ∧
  (((0 : @Int) = (0 : @Int)) ∧
  ((@Bool.false = @Bool.false) ∧
  ((@es = (@ByteArray.mk (@List.toArray @UInt8 (@List.nil @UInt8)))) ∧
  (((Value.slice (@Option.none @Addr) (0 : @Nat) (0 : @Nat)) = (Value.slice (@Option.none @Addr) (0 : @Nat) (0 : @Nat))) ∧
  (((Value.slice (@Option.none @Addr) (0 : @Nat) (0 : @Nat)) = (Value.slice (@Option.none @Addr) (0 : @Nat) (0 : @Nat))) ∧
  (((0 : @Int) = (0 : @Int)) ∧
  True)))))))))))))))))))))))))))) ∧
  ((((@Cll.gn x) = (@Rw.n x_1)) ∧
  (∀ (q : @Nat), ((q < (@Cll.gn x)) → ([(Value.int @IntKind.i64 (@Mem.kind (@Cll.g x q))), (Value.string (@Mem.key (@Cll.g x q))), (Value.string (@Mem.value (@Cll.g x q))), (Value.string (@Mem.to (@Cll.g x q))), (Value.slice (@Mem.gp (@Cll.g x q)) (@Mem.gn (@Cll.g x q)) (@Mem.gc (@Cll.g x q)))] = (@Cs.eff (@Rw.g x_1) (@List.nil (@Prod @Nat (@List @Value))) q))))) ∧
  ((((@Cll.gn x) = (@Cll.gn x)) ∧
  (∀ (q : @Nat), ((q < (@Cll.gn x)) → ([(Value.int @IntKind.i64 (@Mem.kind (@Cll.g x q))), (Value.string (@Mem.key (@Cll.g x q))), (Value.string (@Mem.value (@Cll.g x q))), (Value.string (@Mem.to (@Cll.g x q))), (Value.slice (y_1 q) (0 : @Nat) (0 : @Nat))] = [(Value.int @IntKind.i64 (@Mem.kind (@Cll.g x q))), (Value.string (@Mem.key (@Cll.g x q))), (Value.string (@Mem.value (@Cll.g x q))), (Value.string (@Mem.to (@Cll.g x q))), (Value.slice (@cond (@Option @Addr) (@Nat.blt q (@Prod.fst @Nat @PS s)) (@Prod.snd @Nat @PS s q) (@Mem.gp (@Cll.g x q))) (@cond @Nat (@Nat.blt q (@Prod.fst @Nat @PS s)) (0 : @Nat) (@Mem.gn (@Cll.g x q))) (@cond @Nat (@Nat.blt q (@Prod.fst @Nat @PS s)) (0 : @Nat) (@Mem.gc (@Cll.g x q))))])))) ∧
  True)))))))) ∧
  True))))))))
theorem beginWVC_ok (x : Cll) : beginWVC x = beginWVC_wp x := by kernel_rfl
def callMVC_wp (x : Mem × Option Addr) : Prop := wpF Tryz.prog [(43, ctrT cloneRC)] tt noAn 200 6 102 (callMC.args x) (hO callMC.k (callMC.os x)) (fun v h' => endsP callMC.k x v h' callMC.outs)
def callMVC (x : Mem × Option Addr) : Prop :=
  (∃ (x_1 : (@Prod (@Option @Addr) @Nat)), (True ∧
  ((((Value.slice (@Prod.fst (@Option @Addr) @Nat x_1) (0 : @Nat) (@Prod.snd (@Option @Addr) @Nat x_1)) = (Value.slice (@Prod.snd @Mem (@Option @Addr) x) (0 : @Nat) (0 : @Nat))) ∧
  True) ∧
  (True ∧
  (∀ (y : (@Option @Addr)), (True → (∃ (y_1 : (@Option @Addr)), (True ∧
  ((((@Mem.kind (@Prod.fst @Mem (@Option @Addr) x)) = (@Mem.kind (@Prod.fst @Mem (@Option @Addr) x))) ∧
  (((@Mem.key (@Prod.fst @Mem (@Option @Addr) x)) = (@Mem.key (@Prod.fst @Mem (@Option @Addr) x))) ∧
  (((@Mem.value (@Prod.fst @Mem (@Option @Addr) x)) = (@Mem.value (@Prod.fst @Mem (@Option @Addr) x))) ∧
  (((@Mem.to (@Prod.fst @Mem (@Option @Addr) x)) = (@Mem.to (@Prod.fst @Mem (@Option @Addr) x))) ∧
  (((Value.slice y_1 (0 : @Nat) (0 : @Nat)) = (Value.slice y (0 : @Nat) (0 : @Nat))) ∧
  True))))) ∧
  True)))))))))
theorem callMVC_ok (x : Mem × Option Addr) : callMVC x = callMVC_wp x := by kernel_rfl
def callNVC_wp (x : Cll) : Prop := wpF Tryz.prog [(43, ctrT cloneNC)] tt noAn 200 6 102 (callNC.args x) (hO callNC.k (callNC.os x)) (fun v h' => endsP callNC.k x v h' callNC.outs)
def callNVC (x : Cll) : Prop :=
  (∃ (x_1 : Unit), (True ∧
  ((((Value.slice (@Option.none @Addr) (0 : @Nat) (0 : @Nat)) = (Value.slice (@Option.none @Addr) (0 : @Nat) (0 : @Nat))) ∧
  True) ∧
  (True ∧
  (∀ (y : Unit), (True → (∃ (y_1 : Unit), (True ∧
  ((((@Cll.kind x) = (@Cll.kind x)) ∧
  (((@Cll.key x) = (@Cll.key x)) ∧
  (((@Cll.value x) = (@Cll.value x)) ∧
  (((@Cll.to x) = (@Cll.to x)) ∧
  (((Value.slice (@Option.none @Addr) (0 : @Nat) (0 : @Nat)) = (Value.slice (@Option.none @Addr) (0 : @Nat) (0 : @Nat))) ∧
  True))))) ∧
  True)))))))))
theorem callNVC_ok (x : Cll) : callNVC x = callNVC_wp x := by kernel_rfl
def callWVC_wp (x : CP) : Prop := wpF Tryz.prog [(43, ctrT cloneWC), (102, ctrT callMC)] tt (anCallF x) 200 6 102 (callWC.args x) (hO callWC.k (callWC.os x)) (fun v h' => endsP callWC.k x v h' callWC.outs)
def callWVC (x : CP) : Prop :=
  (∃ (x_1 : @Rw), ((((1 : @Nat) ≤ (@Rw.n x_1)) ∧
  ((@Rw.n x_1) ≤ (600 : @Nat))) ∧
  (((((0 : @Nat) = (0 : @Nat)) ∧
  ((@Rw.n x_1) = (@Cll.gn (@CP.c x)))) ∧
  True) ∧
  (((((@Rw.n x_1) = (@Cll.gn (@CP.c x))) ∧
  (∀ (q : @Nat), ((q < (@Rw.n x_1)) → ((@Cs.eff (@Rw.g x_1) (@List.nil (@Prod @Nat (@List @Value))) q) = [(Value.int @IntKind.i64 (@Mem.kind (@Cll.g (@CP.c x) q))), (Value.string (@Mem.key (@Cll.g (@CP.c x) q))), (Value.string (@Mem.value (@Cll.g (@CP.c x) q))), (Value.string (@Mem.to (@Cll.g (@CP.c x) q))), (Value.slice (@CP.p x q) (0 : @Nat) (0 : @Nat))])))) ∧
  True) ∧
  (∀ (y : Unit), (True → ((∃ (s : (@Prod @Nat @PS)), (((@Prod.fst @Nat @PS s) ≤ (@Cll.gn (@CP.c x))) ∧
  (True ∧
  ((((((@Prod.fst @Nat @PS s) : Nat) : @Int) = (0 : @Int)) ∧
  True) ∧
  ((((@Cll.gn (@CP.c x)) = (@Rw.n x_1)) ∧
  (∀ (q : @Nat), ((q < (@Cll.gn (@CP.c x))) → ([(Value.int @IntKind.i64 (@Mem.kind (@Cll.g (@CP.c x) q))), (Value.string (@Mem.key (@Cll.g (@CP.c x) q))), (Value.string (@Mem.value (@Cll.g (@CP.c x) q))), (Value.string (@Mem.to (@Cll.g (@CP.c x) q))), (Value.slice (@cond (@Option @Addr) (@Nat.blt q (@Prod.fst @Nat @PS s)) (@Prod.snd @Nat @PS s q) (@CP.p x q)) (0 : @Nat) (0 : @Nat))] = (@Cs.eff (@Rw.g x_1) (@List.nil (@Prod @Nat (@List @Value))) q))))) ∧
  ((((0 : @Int) = (0 : @Int)) ∧
  (((@ByteArray.mk (@List.toArray @UInt8 (@List.nil @UInt8))) = (@ByteArray.mk (@List.toArray @UInt8 (@List.nil @UInt8)))) ∧
  (((@ByteArray.mk (@List.toArray @UInt8 (@List.nil @UInt8))) = (@ByteArray.mk (@List.toArray @UInt8 (@List.nil @UInt8)))) ∧
  (((@ByteArray.mk (@List.toArray @UInt8 (@List.nil @UInt8))) = (@ByteArray.mk (@List.toArray @UInt8 (@List.nil @UInt8)))) ∧
  (((Value.slice (@Option.none @Addr) (0 : @Nat) (0 : @Nat)) = (Value.slice (@Option.none @Addr) (0 : @Nat) (0 : @Nat))) ∧
  True))))) ∧
  ((((@Cll.kind (@CP.c x)) = (@Cll.kind (@CP.c x))) ∧
  (((@Cll.key (@CP.c x)) = (@Cll.key (@CP.c x))) ∧
  (((@Cll.value (@CP.c x)) = (@Cll.value (@CP.c x))) ∧
  (((@Cll.to (@CP.c x)) = (@Cll.to (@CP.c x))) ∧
  ((((0 : @Nat) = (0 : @Nat)) ∧
  ((@Rw.n x_1) = (@Rw.n x_1))) ∧
  True))))) ∧
  ((((@Rw.n x_1) = (@Rw.n x_1)) ∧
  (∀ (q : @Nat), ((q < (@Rw.n x_1)) → ((@Cs.eff (@Rw.g x_1) (@List.nil (@Prod @Nat (@List @Value))) q) = (@Cs.eff (@Rw.g x_1) (@List.nil (@Prod @Nat (@List @Value))) q))))) ∧
  True)))))))) ∧
  ((∀ (s : (@Prod @Nat @PS)), (((@Prod.fst @Nat @PS s) ≤ (@Cll.gn (@CP.c x))) → (cP (decide ((((@Prod.fst @Nat @PS s) : Nat) : @Int) < (((@Rw.n x_1) : Nat) : @Int))) ((((0 : @Int) ≤ (((@Prod.fst @Nat @PS s) : Nat) : @Int)) ∧
  ((((@Prod.fst @Nat @PS s) : Nat) : @Int) < (((@Rw.n x_1) : Nat) : @Int))) ∧
  ((((0 : @Nat) + (@Prod.fst @Nat @PS s)) < (@Cll.gn (@CP.c x))) ∧
  (∃ (x_2 : (@Prod @Mem (@Option @Addr))), (True ∧
  (((((@Mem.kind (@Prod.fst @Mem (@Option @Addr) x_2)) = (@Mem.kind (@Cll.g (@CP.c x) ((0 : @Nat) + (@Prod.fst @Nat @PS s))))) ∧
  (((@Mem.key (@Prod.fst @Mem (@Option @Addr) x_2)) = (@Mem.key (@Cll.g (@CP.c x) ((0 : @Nat) + (@Prod.fst @Nat @PS s))))) ∧
  (((@Mem.value (@Prod.fst @Mem (@Option @Addr) x_2)) = (@Mem.value (@Cll.g (@CP.c x) ((0 : @Nat) + (@Prod.fst @Nat @PS s))))) ∧
  (((@Mem.to (@Prod.fst @Mem (@Option @Addr) x_2)) = (@Mem.to (@Cll.g (@CP.c x) ((0 : @Nat) + (@Prod.fst @Nat @PS s))))) ∧
  (((Value.slice (@Prod.snd @Mem (@Option @Addr) x_2) (0 : @Nat) (0 : @Nat)) = (Value.slice (@cond (@Option @Addr) (@Nat.blt ((0 : @Nat) + (@Prod.fst @Nat @PS s)) (@Prod.fst @Nat @PS s)) (@Prod.snd @Nat @PS s ((0 : @Nat) + (@Prod.fst @Nat @PS s))) (@CP.p x ((0 : @Nat) + (@Prod.fst @Nat @PS s)))) (0 : @Nat) (0 : @Nat))) ∧
  True))))) ∧
  True) ∧
  (True ∧
  (∀ (y_1 : (@Option @Addr)), (True → ((((AV.slW (3 : Nat) (0 : @Nat) (5 : @Nat) (@Rw.n x_1)) = (AV.slW (3 : Nat) (0 : @Nat) (5 : @Nat) (@Rw.n x_1))) ∧
  True) ∧
  ((((0 : @Int) ≤ (((@Prod.fst @Nat @PS s) : Nat) : @Int)) ∧
  ((((@Prod.fst @Nat @PS s) : Nat) : @Int) < (((@Rw.n x_1) : Nat) : @Int))) ∧
  ((((0 : @Nat) + (@Prod.fst @Nat @PS s)) < (@Cll.gn (@CP.c x))) ∧
  (True ∧
  ((@I64 ((((@Prod.fst @Nat @PS s) : Nat) : @Int) + (1 : @Int))) ∧
  (∃ (s_1 : (@Prod @Nat @PS)), (((@Prod.fst @Nat @PS s_1) ≤ (@Cll.gn (@CP.c x))) ∧
  ((((@Cll.gn (@CP.c x)) - (@Prod.fst @Nat @PS s_1)) < ((@Cll.gn (@CP.c x)) - (@Prod.fst @Nat @PS s))) ∧
  ((((((@Prod.fst @Nat @PS s_1) : Nat) : @Int) = ((((@Prod.fst @Nat @PS s) : Nat) : @Int) + (1 : @Int))) ∧
  True) ∧
  ((((@Cll.gn (@CP.c x)) = (@Cll.gn (@CP.c x))) ∧
  (∀ (q : @Nat), ((q < (@Cll.gn (@CP.c x))) → ([(Value.int @IntKind.i64 (@Mem.kind (@Cll.g (@CP.c x) q))), (Value.string (@Mem.key (@Cll.g (@CP.c x) q))), (Value.string (@Mem.value (@Cll.g (@CP.c x) q))), (Value.string (@Mem.to (@Cll.g (@CP.c x) q))), (Value.slice (@cond (@Option @Addr) (@Nat.blt q (@Prod.fst @Nat @PS s_1)) (@Prod.snd @Nat @PS s_1 q) (@CP.p x q)) (0 : @Nat) (0 : @Nat))] = (@Cs.eff (fun (k : @Nat) => [(Value.int @IntKind.i64 (@Mem.kind (@Cll.g (@CP.c x) k))), (Value.string (@Mem.key (@Cll.g (@CP.c x) k))), (Value.string (@Mem.value (@Cll.g (@CP.c x) k))), (Value.string (@Mem.to (@Cll.g (@CP.c x) k))), (Value.slice (@cond (@Option @Addr) (@Nat.blt k (@Prod.fst @Nat @PS s)) (@Prod.snd @Nat @PS s k) (@CP.p x k)) (0 : @Nat) (0 : @Nat))]) [(@Prod.mk @Nat (@List @Value) ((0 : @Nat) + (@Prod.fst @Nat @PS s)) [(Value.int @IntKind.i64 (@Mem.kind (@Prod.fst @Mem (@Option @Addr) x_2))), (Value.string (@Mem.key (@Prod.fst @Mem (@Option @Addr) x_2))), (Value.string (@Mem.value (@Prod.fst @Mem (@Option @Addr) x_2))), (Value.string (@Mem.to (@Prod.fst @Mem (@Option @Addr) x_2))), (Value.slice y_1 (0 : @Nat) (0 : @Nat))])] q))))) ∧
  ((((0 : @Int) = (0 : @Int)) ∧
  (((@ByteArray.mk (@List.toArray @UInt8 (@List.nil @UInt8))) = (@ByteArray.mk (@List.toArray @UInt8 (@List.nil @UInt8)))) ∧
  (((@ByteArray.mk (@List.toArray @UInt8 (@List.nil @UInt8))) = (@ByteArray.mk (@List.toArray @UInt8 (@List.nil @UInt8)))) ∧
  (((@ByteArray.mk (@List.toArray @UInt8 (@List.nil @UInt8))) = (@ByteArray.mk (@List.toArray @UInt8 (@List.nil @UInt8)))) ∧
  (((Value.slice (@Option.none @Addr) (0 : @Nat) (0 : @Nat)) = (Value.slice (@Option.none @Addr) (0 : @Nat) (0 : @Nat))) ∧
  True))))) ∧
  ((((@Cll.kind (@CP.c x)) = (@Cll.kind (@CP.c x))) ∧
  (((@Cll.key (@CP.c x)) = (@Cll.key (@CP.c x))) ∧
  (((@Cll.value (@CP.c x)) = (@Cll.value (@CP.c x))) ∧
  (((@Cll.to (@CP.c x)) = (@Cll.to (@CP.c x))) ∧
  ((((0 : @Nat) = (0 : @Nat)) ∧
  ((@Rw.n x_1) = (@Rw.n x_1))) ∧
  True))))) ∧
  ((((@Rw.n x_1) = (@Rw.n x_1)) ∧
  (∀ (q : @Nat), ((q < (@Rw.n x_1)) → ((@Cs.eff (@Rw.g x_1) (@List.nil (@Prod @Nat (@List @Value))) q) = (@Cs.eff (@Rw.g x_1) (@List.nil (@Prod @Nat (@List @Value))) q))))) ∧
  True))))))))))))))))))))) (∃ (y_1 : (@Out.Y @CP (@Out.mk @CP @PS (fun (x_2 : @CP) => (fun (x_3 : @PS) => True)) (fun (x_2 : @CP) => (fun (x_3 : @PS) => (@Cll.avW (@CP.c x_2) (1 : @Nat)))) (2 : @Nat) (fun (x_2 : @CP) => (fun (ps : @PS) => [(@roomC (@CP.cs x_2)), (@roomC (@rowP (@CP.c x_2) ps))]))))), (True ∧
  ((((@Cll.kind (@CP.c x)) = (@Cll.kind (@CP.c x))) ∧
  (((@Cll.key (@CP.c x)) = (@Cll.key (@CP.c x))) ∧
  (((@Cll.value (@CP.c x)) = (@Cll.value (@CP.c x))) ∧
  (((@Cll.to (@CP.c x)) = (@Cll.to (@CP.c x))) ∧
  ((((0 : @Nat) = (0 : @Nat)) ∧
  ((@Cll.gn (@CP.c x)) = (@Rw.n x_1))) ∧
  True))))) ∧
  ((((@Cll.gn (@CP.c x)) = (@Rw.n x_1)) ∧
  (∀ (q : @Nat), ((q < (@Cll.gn (@CP.c x))) → ([(Value.int @IntKind.i64 (@Mem.kind (@Cll.g (@CP.c x) q))), (Value.string (@Mem.key (@Cll.g (@CP.c x) q))), (Value.string (@Mem.value (@Cll.g (@CP.c x) q))), (Value.string (@Mem.to (@Cll.g (@CP.c x) q))), (Value.slice (@CP.p x q) (0 : @Nat) (0 : @Nat))] = (@Cs.eff (@Rw.g x_1) (@List.nil (@Prod @Nat (@List @Value))) q))))) ∧
  ((((@Cll.gn (@CP.c x)) = (@Cll.gn (@CP.c x))) ∧
  (∀ (q : @Nat), ((q < (@Cll.gn (@CP.c x))) → ([(Value.int @IntKind.i64 (@Mem.kind (@Cll.g (@CP.c x) q))), (Value.string (@Mem.key (@Cll.g (@CP.c x) q))), (Value.string (@Mem.value (@Cll.g (@CP.c x) q))), (Value.string (@Mem.to (@Cll.g (@CP.c x) q))), (Value.slice (y_1 q) (0 : @Nat) (0 : @Nat))] = [(Value.int @IntKind.i64 (@Mem.kind (@Cll.g (@CP.c x) q))), (Value.string (@Mem.key (@Cll.g (@CP.c x) q))), (Value.string (@Mem.value (@Cll.g (@CP.c x) q))), (Value.string (@Mem.to (@Cll.g (@CP.c x) q))), (Value.slice (@cond (@Option @Addr) (@Nat.blt q (@Prod.fst @Nat @PS s)) (@Prod.snd @Nat @PS s q) (@CP.p x q)) (0 : @Nat) (0 : @Nat))])))) ∧
  True)))))))) ∧
  True))))))))
theorem callWVC_ok (x : CP) : callWVC x = callWVC_wp x := by kernel_rfl
def cloneFNVC_wp (x : Cll) : Prop := wpF Tryz.prog [(102, ctrT callNC)] tt noAn 200 6 45 (cloneFN.args x) (hO cloneFN.k (cloneFN.os x)) (fun v h' => endsP cloneFN.k x v h' cloneFN.outs)
def cloneFNVC (x : Cll) : Prop :=
  (∃ (x_1 : @Cll), (True ∧
  (((((@Cll.kind x_1) = (@Cll.kind x)) ∧
  (((@Cll.key x_1) = (@Cll.key x)) ∧
  (((@Cll.value x_1) = (@Cll.value x)) ∧
  (((@Cll.to x_1) = (@Cll.to x)) ∧
  (((Value.slice (@Option.none @Addr) (0 : @Nat) (0 : @Nat)) = (Value.slice (@Option.none @Addr) (0 : @Nat) (0 : @Nat))) ∧
  True))))) ∧
  True) ∧
  (True ∧
  (∀ (y : Unit), (True → (∃ (y_1 : Unit), (True ∧
  ((((@Cll.kind x) = (@Cll.kind x_1)) ∧
  (((@Cll.key x) = (@Cll.key x_1)) ∧
  (((@Cll.value x) = (@Cll.value x_1)) ∧
  (((@Cll.to x) = (@Cll.to x_1)) ∧
  (((Value.slice (@Option.none @Addr) (0 : @Nat) (0 : @Nat)) = (Value.slice (@Option.none @Addr) (0 : @Nat) (0 : @Nat))) ∧
  (((0 : @Int) = (0 : @Int)) ∧
  (((0 : @Int) = (0 : @Int)) ∧
  ((@es = @es) ∧
  ((@Bool.false = @Bool.false) ∧
  (((0 : @Int) = (0 : @Int)) ∧
  ((@Bool.false = @Bool.false) ∧
  ((@es = @es) ∧
  (((0 : @Int) = (0 : @Int)) ∧
  (((0 : @Int) = (0 : @Int)) ∧
  (((0 : @Int) = (0 : @Int)) ∧
  (((0 : @Int) = (0 : @Int)) ∧
  (((-(1 : @Int)) = (-(1 : @Int))) ∧
  (((0 : @Int) = (0 : @Int)) ∧
  (((0 : @Int) = (0 : @Int)) ∧
  (((Value.slice (@Option.none @Addr) (0 : @Nat) (0 : @Nat)) = (Value.slice (@Option.none @Addr) (0 : @Nat) (0 : @Nat))) ∧
  (((0 : @Int) = (0 : @Int)) ∧
  (((Value.slice (@Option.none @Addr) (0 : @Nat) (0 : @Nat)) = (Value.slice (@Option.none @Addr) (0 : @Nat) (0 : @Nat))) ∧
  (((0 : @Int) = (0 : @Int)) ∧
  ((@Bool.false = @Bool.false) ∧
  ((@es = @es) ∧
  (((Value.slice (@Option.none @Addr) (0 : @Nat) (0 : @Nat)) = (Value.slice (@Option.none @Addr) (0 : @Nat) (0 : @Nat))) ∧
  (((Value.slice (@Option.none @Addr) (0 : @Nat) (0 : @Nat)) = (Value.slice (@Option.none @Addr) (0 : @Nat) (0 : @Nat))) ∧
  (((0 : @Int) = (0 : @Int)) ∧
  True)))))))))))))))))))))))))))) ∧
  True)))))))))
theorem cloneFNVC_ok (x : Cll) : cloneFNVC x = cloneFNVC_wp x := by kernel_rfl
def cloneFWVC_wp (x : CP) : Prop := wpF Tryz.prog [(102, ctrT callWC)] tt noAn 200 6 45 (cloneFW.args x) (hO cloneFW.k (cloneFW.os x)) (fun v h' => endsP cloneFW.k x v h' cloneFW.outs)
def cloneFWVC (x : CP) : Prop :=
  (∃ (x_1 : @CP), ((@Hd (@CP.ok x_1)) ∧
  (((((@Cll.kind (@CP.c x_1)) = (@Cll.kind (@CP.c x))) ∧
  (((@Cll.key (@CP.c x_1)) = (@Cll.key (@CP.c x))) ∧
  (((@Cll.value (@CP.c x_1)) = (@Cll.value (@CP.c x))) ∧
  (((@Cll.to (@CP.c x_1)) = (@Cll.to (@CP.c x))) ∧
  ((((0 : @Nat) = (0 : @Nat)) ∧
  ((@Cll.gn (@CP.c x_1)) = (@Cll.gn (@CP.c x)))) ∧
  True))))) ∧
  True) ∧
  (((((@Cll.gn (@CP.c x_1)) = (@Cll.gn (@CP.c x))) ∧
  (∀ (q : @Nat), ((q < (@Cll.gn (@CP.c x_1))) → ([(Value.int @IntKind.i64 (@Mem.kind (@Cll.g (@CP.c x_1) q))), (Value.string (@Mem.key (@Cll.g (@CP.c x_1) q))), (Value.string (@Mem.value (@Cll.g (@CP.c x_1) q))), (Value.string (@Mem.to (@Cll.g (@CP.c x_1) q))), (Value.slice (@CP.p x_1 q) (0 : @Nat) (0 : @Nat))] = [(Value.int @IntKind.i64 (@Mem.kind (@Cll.g (@CP.c x) q))), (Value.string (@Mem.key (@Cll.g (@CP.c x) q))), (Value.string (@Mem.value (@Cll.g (@CP.c x) q))), (Value.string (@Mem.to (@Cll.g (@CP.c x) q))), (Value.slice (@CP.p x q) (0 : @Nat) (0 : @Nat))])))) ∧
  True) ∧
  (∀ (y : (@Out.Y (@Ctr.X @callWC) (@Out.mk @CP @PS (fun (x_2 : @CP) => (fun (x_3 : @PS) => True)) (fun (x_2 : @CP) => (fun (x_3 : @PS) => (@Cll.avW (@CP.c x_2) (1 : @Nat)))) (2 : @Nat) (fun (x_2 : @CP) => (fun (ps : @PS) => [(@roomC (@CP.cs x_2)), (@roomC (@rowP (@CP.c x_2) ps))]))))), (True → (∃ (y_1 : (@Out.Y @CP (@Out.mk @CP @PS (fun (x_2 : @CP) => (fun (x_3 : @PS) => True)) (fun (x_2 : @CP) => (fun (x_3 : @PS) => (@Cll.frW (@CP.c x_2) (1 : @Nat)))) (2 : @Nat) (fun (x_2 : @CP) => (fun (ps : @PS) => [(@roomC (@CP.cs x_2)), (@roomC (@rowP (@CP.c x_2) ps))]))))), (True ∧
  ((((@Cll.kind (@CP.c x)) = (@Cll.kind (@CP.c x_1))) ∧
  (((@Cll.key (@CP.c x)) = (@Cll.key (@CP.c x_1))) ∧
  (((@Cll.value (@CP.c x)) = (@Cll.value (@CP.c x_1))) ∧
  (((@Cll.to (@CP.c x)) = (@Cll.to (@CP.c x_1))) ∧
  ((((0 : @Nat) = (0 : @Nat)) ∧
  ((@Cll.gn (@CP.c x)) = (@Cll.gn (@CP.c x_1)))) ∧
  (((0 : @Int) = (0 : @Int)) ∧
  (((0 : @Int) = (0 : @Int)) ∧
  ((@es = @es) ∧
  ((@Bool.false = @Bool.false) ∧
  (((0 : @Int) = (0 : @Int)) ∧
  ((@Bool.false = @Bool.false) ∧
  ((@es = @es) ∧
  (((0 : @Int) = (0 : @Int)) ∧
  (((0 : @Int) = (0 : @Int)) ∧
  (((0 : @Int) = (0 : @Int)) ∧
  (((0 : @Int) = (0 : @Int)) ∧
  (((-(1 : @Int)) = (-(1 : @Int))) ∧
  (((0 : @Int) = (0 : @Int)) ∧
  (((0 : @Int) = (0 : @Int)) ∧
  (((Value.slice (@Option.none @Addr) (0 : @Nat) (0 : @Nat)) = (Value.slice (@Option.none @Addr) (0 : @Nat) (0 : @Nat))) ∧
  (((0 : @Int) = (0 : @Int)) ∧
  (((Value.slice (@Option.none @Addr) (0 : @Nat) (0 : @Nat)) = (Value.slice (@Option.none @Addr) (0 : @Nat) (0 : @Nat))) ∧
  (((0 : @Int) = (0 : @Int)) ∧
  ((@Bool.false = @Bool.false) ∧
  ((@es = @es) ∧
  (((Value.slice (@Option.none @Addr) (0 : @Nat) (0 : @Nat)) = (Value.slice (@Option.none @Addr) (0 : @Nat) (0 : @Nat))) ∧
  (((Value.slice (@Option.none @Addr) (0 : @Nat) (0 : @Nat)) = (Value.slice (@Option.none @Addr) (0 : @Nat) (0 : @Nat))) ∧
  (((0 : @Int) = (0 : @Int)) ∧
  True)))))))))))))))))))))))))))) ∧
  ((((@Cll.gn (@CP.c x)) = (@Cll.gn (@CP.c x_1))) ∧
  (∀ (q : @Nat), ((q < (@Cll.gn (@CP.c x))) → ([(Value.int @IntKind.i64 (@Mem.kind (@Cll.g (@CP.c x) q))), (Value.string (@Mem.key (@Cll.g (@CP.c x) q))), (Value.string (@Mem.value (@Cll.g (@CP.c x) q))), (Value.string (@Mem.to (@Cll.g (@CP.c x) q))), (Value.slice (@CP.p x q) (0 : @Nat) (0 : @Nat))] = [(Value.int @IntKind.i64 (@Mem.kind (@Cll.g (@CP.c x_1) q))), (Value.string (@Mem.key (@Cll.g (@CP.c x_1) q))), (Value.string (@Mem.value (@Cll.g (@CP.c x_1) q))), (Value.string (@Mem.to (@Cll.g (@CP.c x_1) q))), (Value.slice (@CP.p x_1 q) (0 : @Nat) (0 : @Nat))])))) ∧
  ((((@Cll.gn (@CP.c x)) = (@Cll.gn (@CP.c x_1))) ∧
  (∀ (q : @Nat), ((q < (@Cll.gn (@CP.c x))) → ([(Value.int @IntKind.i64 (@Mem.kind (@Cll.g (@CP.c x) q))), (Value.string (@Mem.key (@Cll.g (@CP.c x) q))), (Value.string (@Mem.value (@Cll.g (@CP.c x) q))), (Value.string (@Mem.to (@Cll.g (@CP.c x) q))), (Value.slice (y_1 q) (0 : @Nat) (0 : @Nat))] = [(Value.int @IntKind.i64 (@Mem.kind (@Cll.g (@CP.c x_1) q))), (Value.string (@Mem.key (@Cll.g (@CP.c x_1) q))), (Value.string (@Mem.value (@Cll.g (@CP.c x_1) q))), (Value.string (@Mem.to (@Cll.g (@CP.c x_1) q))), (Value.slice (y q) (0 : @Nat) (0 : @Nat))])))) ∧
  True)))))))))))
theorem cloneFWVC_ok (x : CP) : cloneFWVC x = cloneFWVC_wp x := by kernel_rfl
def sameCNVC_wp (x : Cll) : Prop := wpF Tryz.prog [] tt noAn 200 6 56 (sameCN.args x) (hO sameCN.k (sameCN.os x)) (fun v h' => endsP sameCN.k x v h' sameCN.outs)
def sameCNVC (x : Cll) : Prop :=
  (cP (@bne @Int (@instBEqOfDecidableEq @Int @Int.instDecidableEq) (@Cll.kind x) (@Cll.kind x)) (∃ (y : Unit), (True ∧
  ((@Bool.true = @Bool.false) ∧
  True))) (cP (@Bool.not (@BEq.beq (@List @UInt8) (@List.instBEq @UInt8 (@instBEqOfDecidableEq @UInt8 @instDecidableEqUInt8)) (@ByteArray.toList (@Cll.key x)) (@ByteArray.toList (@Cll.key x)))) (∃ (y : Unit), (True ∧
  ((@Bool.true = @Bool.false) ∧
  True))) (cP (@Bool.not (@BEq.beq (@List @UInt8) (@List.instBEq @UInt8 (@instBEqOfDecidableEq @UInt8 @instDecidableEqUInt8)) (@ByteArray.toList (@Cll.value x)) (@ByteArray.toList (@Cll.value x)))) (∃ (y : Unit), (True ∧
  ((@Bool.true = @Bool.false) ∧
  True))) (cP (@Bool.not (@BEq.beq (@List @UInt8) (@List.instBEq @UInt8 (@instBEqOfDecidableEq @UInt8 @instDecidableEqUInt8)) (@ByteArray.toList (@Cll.to x)) (@ByteArray.toList (@Cll.to x)))) (∃ (y : Unit), (True ∧
  ((@Bool.true = @Bool.false) ∧
  True))) (∃ (y : Unit), (True ∧
  ((@Bool.true = @Bool.true) ∧
  True)))))))
theorem sameCNVC_ok (x : Cll) : sameCNVC x = sameCNVC_wp x := by kernel_rfl
def sameCWVC_wp (x : CQ) : Prop := wpF Tryz.prog [] tt (anSame x) 200 6 56 (sameCW.args x) (hO sameCW.k (sameCW.os x)) (fun v h' => endsP sameCW.k x v h' sameCW.outs)
def sameCWVC (x : CQ) : Prop :=
  (cP (@bne @Int (@instBEqOfDecidableEq @Int @Int.instDecidableEq) (@Cll.kind (@CQ.c x)) (@Cll.kind (@CQ.c x))) (∃ (y : Unit), (True ∧
  ((@Bool.true = @Bool.false) ∧
  ((((@Cll.gn (@CQ.c x)) = (@Cll.gn (@CQ.c x))) ∧
  (∀ (q : @Nat), ((q < (@Cll.gn (@CQ.c x))) → ([(Value.int @IntKind.i64 (@Mem.kind (@Cll.g (@CQ.c x) q))), (Value.string (@Mem.key (@Cll.g (@CQ.c x) q))), (Value.string (@Mem.value (@Cll.g (@CQ.c x) q))), (Value.string (@Mem.to (@Cll.g (@CQ.c x) q))), (Value.slice (@CQ.p x q) (0 : @Nat) (0 : @Nat))] = [(Value.int @IntKind.i64 (@Mem.kind (@Cll.g (@CQ.c x) q))), (Value.string (@Mem.key (@Cll.g (@CQ.c x) q))), (Value.string (@Mem.value (@Cll.g (@CQ.c x) q))), (Value.string (@Mem.to (@Cll.g (@CQ.c x) q))), (Value.slice (@CQ.p x q) (0 : @Nat) (0 : @Nat))])))) ∧
  ((((@Cll.gn (@CQ.c x)) = (@Cll.gn (@CQ.c x))) ∧
  (∀ (q : @Nat), ((q < (@Cll.gn (@CQ.c x))) → ([(Value.int @IntKind.i64 (@Mem.kind (@Cll.g (@CQ.c x) q))), (Value.string (@Mem.key (@Cll.g (@CQ.c x) q))), (Value.string (@Mem.value (@Cll.g (@CQ.c x) q))), (Value.string (@Mem.to (@Cll.g (@CQ.c x) q))), (Value.slice (@CQ.q x q) (0 : @Nat) (0 : @Nat))] = [(Value.int @IntKind.i64 (@Mem.kind (@Cll.g (@CQ.c x) q))), (Value.string (@Mem.key (@Cll.g (@CQ.c x) q))), (Value.string (@Mem.value (@Cll.g (@CQ.c x) q))), (Value.string (@Mem.to (@Cll.g (@CQ.c x) q))), (Value.slice (@CQ.q x q) (0 : @Nat) (0 : @Nat))])))) ∧
  True))))) (cP (@Bool.not (@BEq.beq (@List @UInt8) (@List.instBEq @UInt8 (@instBEqOfDecidableEq @UInt8 @instDecidableEqUInt8)) (@ByteArray.toList (@Cll.key (@CQ.c x))) (@ByteArray.toList (@Cll.key (@CQ.c x))))) (∃ (y : Unit), (True ∧
  ((@Bool.true = @Bool.false) ∧
  ((((@Cll.gn (@CQ.c x)) = (@Cll.gn (@CQ.c x))) ∧
  (∀ (q : @Nat), ((q < (@Cll.gn (@CQ.c x))) → ([(Value.int @IntKind.i64 (@Mem.kind (@Cll.g (@CQ.c x) q))), (Value.string (@Mem.key (@Cll.g (@CQ.c x) q))), (Value.string (@Mem.value (@Cll.g (@CQ.c x) q))), (Value.string (@Mem.to (@Cll.g (@CQ.c x) q))), (Value.slice (@CQ.p x q) (0 : @Nat) (0 : @Nat))] = [(Value.int @IntKind.i64 (@Mem.kind (@Cll.g (@CQ.c x) q))), (Value.string (@Mem.key (@Cll.g (@CQ.c x) q))), (Value.string (@Mem.value (@Cll.g (@CQ.c x) q))), (Value.string (@Mem.to (@Cll.g (@CQ.c x) q))), (Value.slice (@CQ.p x q) (0 : @Nat) (0 : @Nat))])))) ∧
  ((((@Cll.gn (@CQ.c x)) = (@Cll.gn (@CQ.c x))) ∧
  (∀ (q : @Nat), ((q < (@Cll.gn (@CQ.c x))) → ([(Value.int @IntKind.i64 (@Mem.kind (@Cll.g (@CQ.c x) q))), (Value.string (@Mem.key (@Cll.g (@CQ.c x) q))), (Value.string (@Mem.value (@Cll.g (@CQ.c x) q))), (Value.string (@Mem.to (@Cll.g (@CQ.c x) q))), (Value.slice (@CQ.q x q) (0 : @Nat) (0 : @Nat))] = [(Value.int @IntKind.i64 (@Mem.kind (@Cll.g (@CQ.c x) q))), (Value.string (@Mem.key (@Cll.g (@CQ.c x) q))), (Value.string (@Mem.value (@Cll.g (@CQ.c x) q))), (Value.string (@Mem.to (@Cll.g (@CQ.c x) q))), (Value.slice (@CQ.q x q) (0 : @Nat) (0 : @Nat))])))) ∧
  True))))) (cP (@Bool.not (@BEq.beq (@List @UInt8) (@List.instBEq @UInt8 (@instBEqOfDecidableEq @UInt8 @instDecidableEqUInt8)) (@ByteArray.toList (@Cll.value (@CQ.c x))) (@ByteArray.toList (@Cll.value (@CQ.c x))))) (∃ (y : Unit), (True ∧
  ((@Bool.true = @Bool.false) ∧
  ((((@Cll.gn (@CQ.c x)) = (@Cll.gn (@CQ.c x))) ∧
  (∀ (q : @Nat), ((q < (@Cll.gn (@CQ.c x))) → ([(Value.int @IntKind.i64 (@Mem.kind (@Cll.g (@CQ.c x) q))), (Value.string (@Mem.key (@Cll.g (@CQ.c x) q))), (Value.string (@Mem.value (@Cll.g (@CQ.c x) q))), (Value.string (@Mem.to (@Cll.g (@CQ.c x) q))), (Value.slice (@CQ.p x q) (0 : @Nat) (0 : @Nat))] = [(Value.int @IntKind.i64 (@Mem.kind (@Cll.g (@CQ.c x) q))), (Value.string (@Mem.key (@Cll.g (@CQ.c x) q))), (Value.string (@Mem.value (@Cll.g (@CQ.c x) q))), (Value.string (@Mem.to (@Cll.g (@CQ.c x) q))), (Value.slice (@CQ.p x q) (0 : @Nat) (0 : @Nat))])))) ∧
  ((((@Cll.gn (@CQ.c x)) = (@Cll.gn (@CQ.c x))) ∧
  (∀ (q : @Nat), ((q < (@Cll.gn (@CQ.c x))) → ([(Value.int @IntKind.i64 (@Mem.kind (@Cll.g (@CQ.c x) q))), (Value.string (@Mem.key (@Cll.g (@CQ.c x) q))), (Value.string (@Mem.value (@Cll.g (@CQ.c x) q))), (Value.string (@Mem.to (@Cll.g (@CQ.c x) q))), (Value.slice (@CQ.q x q) (0 : @Nat) (0 : @Nat))] = [(Value.int @IntKind.i64 (@Mem.kind (@Cll.g (@CQ.c x) q))), (Value.string (@Mem.key (@Cll.g (@CQ.c x) q))), (Value.string (@Mem.value (@Cll.g (@CQ.c x) q))), (Value.string (@Mem.to (@Cll.g (@CQ.c x) q))), (Value.slice (@CQ.q x q) (0 : @Nat) (0 : @Nat))])))) ∧
  True))))) (cP (@Bool.not (@BEq.beq (@List @UInt8) (@List.instBEq @UInt8 (@instBEqOfDecidableEq @UInt8 @instDecidableEqUInt8)) (@ByteArray.toList (@Cll.to (@CQ.c x))) (@ByteArray.toList (@Cll.to (@CQ.c x))))) (∃ (y : Unit), (True ∧
  ((@Bool.true = @Bool.false) ∧
  ((((@Cll.gn (@CQ.c x)) = (@Cll.gn (@CQ.c x))) ∧
  (∀ (q : @Nat), ((q < (@Cll.gn (@CQ.c x))) → ([(Value.int @IntKind.i64 (@Mem.kind (@Cll.g (@CQ.c x) q))), (Value.string (@Mem.key (@Cll.g (@CQ.c x) q))), (Value.string (@Mem.value (@Cll.g (@CQ.c x) q))), (Value.string (@Mem.to (@Cll.g (@CQ.c x) q))), (Value.slice (@CQ.p x q) (0 : @Nat) (0 : @Nat))] = [(Value.int @IntKind.i64 (@Mem.kind (@Cll.g (@CQ.c x) q))), (Value.string (@Mem.key (@Cll.g (@CQ.c x) q))), (Value.string (@Mem.value (@Cll.g (@CQ.c x) q))), (Value.string (@Mem.to (@Cll.g (@CQ.c x) q))), (Value.slice (@CQ.p x q) (0 : @Nat) (0 : @Nat))])))) ∧
  ((((@Cll.gn (@CQ.c x)) = (@Cll.gn (@CQ.c x))) ∧
  (∀ (q : @Nat), ((q < (@Cll.gn (@CQ.c x))) → ([(Value.int @IntKind.i64 (@Mem.kind (@Cll.g (@CQ.c x) q))), (Value.string (@Mem.key (@Cll.g (@CQ.c x) q))), (Value.string (@Mem.value (@Cll.g (@CQ.c x) q))), (Value.string (@Mem.to (@Cll.g (@CQ.c x) q))), (Value.slice (@CQ.q x q) (0 : @Nat) (0 : @Nat))] = [(Value.int @IntKind.i64 (@Mem.kind (@Cll.g (@CQ.c x) q))), (Value.string (@Mem.key (@Cll.g (@CQ.c x) q))), (Value.string (@Mem.value (@Cll.g (@CQ.c x) q))), (Value.string (@Mem.to (@Cll.g (@CQ.c x) q))), (Value.slice (@CQ.q x q) (0 : @Nat) (0 : @Nat))])))) ∧
  True))))) (cP (@bne @Int (@instBEqOfDecidableEq @Int @Int.instDecidableEq) (((@Cll.gn (@CQ.c x)) : Nat) : @Int) (((@Cll.gn (@CQ.c x)) : Nat) : @Int)) (∃ (y : Unit), (True ∧
  ((@Bool.true = @Bool.false) ∧
  ((((@Cll.gn (@CQ.c x)) = (@Cll.gn (@CQ.c x))) ∧
  (∀ (q : @Nat), ((q < (@Cll.gn (@CQ.c x))) → ([(Value.int @IntKind.i64 (@Mem.kind (@Cll.g (@CQ.c x) q))), (Value.string (@Mem.key (@Cll.g (@CQ.c x) q))), (Value.string (@Mem.value (@Cll.g (@CQ.c x) q))), (Value.string (@Mem.to (@Cll.g (@CQ.c x) q))), (Value.slice (@CQ.p x q) (0 : @Nat) (0 : @Nat))] = [(Value.int @IntKind.i64 (@Mem.kind (@Cll.g (@CQ.c x) q))), (Value.string (@Mem.key (@Cll.g (@CQ.c x) q))), (Value.string (@Mem.value (@Cll.g (@CQ.c x) q))), (Value.string (@Mem.to (@Cll.g (@CQ.c x) q))), (Value.slice (@CQ.p x q) (0 : @Nat) (0 : @Nat))])))) ∧
  ((((@Cll.gn (@CQ.c x)) = (@Cll.gn (@CQ.c x))) ∧
  (∀ (q : @Nat), ((q < (@Cll.gn (@CQ.c x))) → ([(Value.int @IntKind.i64 (@Mem.kind (@Cll.g (@CQ.c x) q))), (Value.string (@Mem.key (@Cll.g (@CQ.c x) q))), (Value.string (@Mem.value (@Cll.g (@CQ.c x) q))), (Value.string (@Mem.to (@Cll.g (@CQ.c x) q))), (Value.slice (@CQ.q x q) (0 : @Nat) (0 : @Nat))] = [(Value.int @IntKind.i64 (@Mem.kind (@Cll.g (@CQ.c x) q))), (Value.string (@Mem.key (@Cll.g (@CQ.c x) q))), (Value.string (@Mem.value (@Cll.g (@CQ.c x) q))), (Value.string (@Mem.to (@Cll.g (@CQ.c x) q))), (Value.slice (@CQ.q x q) (0 : @Nat) (0 : @Nat))])))) ∧
  True))))) ((∃ (s : @Nat), ((s ≤ (@Cll.gn (@CQ.c x))) ∧
  (True ∧
  (((((s : Nat) : @Int) = (0 : @Int)) ∧
  True) ∧
  ((((@Cll.kind (@CQ.c x)) = (@Cll.kind (@CQ.c x))) ∧
  (((@Cll.key (@CQ.c x)) = (@Cll.key (@CQ.c x))) ∧
  (((@Cll.value (@CQ.c x)) = (@Cll.value (@CQ.c x))) ∧
  (((@Cll.to (@CQ.c x)) = (@Cll.to (@CQ.c x))) ∧
  ((((0 : @Nat) = (0 : @Nat)) ∧
  ((@Cll.gn (@CQ.c x)) = (@Cll.gn (@CQ.c x)))) ∧
  True))))) ∧
  ((((@Cll.kind (@CQ.c x)) = (@Cll.kind (@CQ.c x))) ∧
  (((@Cll.key (@CQ.c x)) = (@Cll.key (@CQ.c x))) ∧
  (((@Cll.value (@CQ.c x)) = (@Cll.value (@CQ.c x))) ∧
  (((@Cll.to (@CQ.c x)) = (@Cll.to (@CQ.c x))) ∧
  ((((0 : @Nat) = (0 : @Nat)) ∧
  ((@Cll.gn (@CQ.c x)) = (@Cll.gn (@CQ.c x)))) ∧
  True))))) ∧
  ((((@Cll.gn (@CQ.c x)) = (@Cll.gn (@CQ.c x))) ∧
  (∀ (q : @Nat), ((q < (@Cll.gn (@CQ.c x))) → ([(Value.int @IntKind.i64 (@Mem.kind (@Cll.g (@CQ.c x) q))), (Value.string (@Mem.key (@Cll.g (@CQ.c x) q))), (Value.string (@Mem.value (@Cll.g (@CQ.c x) q))), (Value.string (@Mem.to (@Cll.g (@CQ.c x) q))), (Value.slice (@CQ.q x q) (0 : @Nat) (0 : @Nat))] = [(Value.int @IntKind.i64 (@Mem.kind (@Cll.g (@CQ.c x) q))), (Value.string (@Mem.key (@Cll.g (@CQ.c x) q))), (Value.string (@Mem.value (@Cll.g (@CQ.c x) q))), (Value.string (@Mem.to (@Cll.g (@CQ.c x) q))), (Value.slice (@CQ.q x q) (0 : @Nat) (0 : @Nat))])))) ∧
  ((((@Cll.gn (@CQ.c x)) = (@Cll.gn (@CQ.c x))) ∧
  (∀ (q : @Nat), ((q < (@Cll.gn (@CQ.c x))) → ([(Value.int @IntKind.i64 (@Mem.kind (@Cll.g (@CQ.c x) q))), (Value.string (@Mem.key (@Cll.g (@CQ.c x) q))), (Value.string (@Mem.value (@Cll.g (@CQ.c x) q))), (Value.string (@Mem.to (@Cll.g (@CQ.c x) q))), (Value.slice (@CQ.p x q) (0 : @Nat) (0 : @Nat))] = [(Value.int @IntKind.i64 (@Mem.kind (@Cll.g (@CQ.c x) q))), (Value.string (@Mem.key (@Cll.g (@CQ.c x) q))), (Value.string (@Mem.value (@Cll.g (@CQ.c x) q))), (Value.string (@Mem.to (@Cll.g (@CQ.c x) q))), (Value.slice (@CQ.p x q) (0 : @Nat) (0 : @Nat))])))) ∧
  True)))))))) ∧
  ((∀ (s : @Nat), ((s ≤ (@Cll.gn (@CQ.c x))) → (cP (decide (((s : Nat) : @Int) < (((@Cll.gn (@CQ.c x)) : Nat) : @Int))) ((((0 : @Int) ≤ ((s : Nat) : @Int)) ∧
  (((s : Nat) : @Int) < (((@Cll.gn (@CQ.c x)) : Nat) : @Int))) ∧
  ((((0 : @Nat) + s) < (@Cll.gn (@CQ.c x))) ∧
  ((((0 : @Int) ≤ ((s : Nat) : @Int)) ∧
  (((s : Nat) : @Int) < (((@Cll.gn (@CQ.c x)) : Nat) : @Int))) ∧
  ((((0 : @Nat) + s) < (@Cll.gn (@CQ.c x))) ∧
  (((((((0 : @Nat) + s) < (@Cll.gn (@CQ.c x))) ∧
  ((AV.agg [(AV.lit (Value.int @IntKind.i64 (@Mem.kind (@Cll.g (@CQ.c x) ((0 : @Nat) + s))))), (AV.lit (Value.string (@Mem.key (@Cll.g (@CQ.c x) ((0 : @Nat) + s))))), (AV.lit (Value.string (@Mem.value (@Cll.g (@CQ.c x) ((0 : @Nat) + s))))), (AV.lit (Value.string (@Mem.to (@Cll.g (@CQ.c x) ((0 : @Nat) + s))))), (AV.lit (Value.slice (@CQ.q x ((0 : @Nat) + s)) (0 : @Nat) (0 : @Nat)))]) = (AV.agg [(AV.lit (Value.int @IntKind.i64 (@Mem.kind (@Cll.g (@CQ.c x) ((0 : @Nat) + s))))), (AV.lit (Value.string (@Mem.key (@Cll.g (@CQ.c x) ((0 : @Nat) + s))))), (AV.lit (Value.string (@Mem.value (@Cll.g (@CQ.c x) ((0 : @Nat) + s))))), (AV.lit (Value.string (@Mem.to (@Cll.g (@CQ.c x) ((0 : @Nat) + s))))), (AV.lit (Value.slice (@CQ.q x ((0 : @Nat) + s)) (0 : @Nat) (0 : @Nat)))]))) ∧
  (((AV.slW (1 : @Nat) (0 : @Nat) (5 : @Nat) (@Cll.gn (@CQ.c x))) = (AV.slW (1 : @Nat) (0 : @Nat) (5 : @Nat) (@Cll.gn (@CQ.c x)))) ∧
  (((((0 : @Nat) + s) < (@Cll.gn (@CQ.c x))) ∧
  ((AV.agg [(AV.lit (Value.int @IntKind.i64 (@Mem.kind (@Cll.g (@CQ.c x) ((0 : @Nat) + s))))), (AV.lit (Value.string (@Mem.key (@Cll.g (@CQ.c x) ((0 : @Nat) + s))))), (AV.lit (Value.string (@Mem.value (@Cll.g (@CQ.c x) ((0 : @Nat) + s))))), (AV.lit (Value.string (@Mem.to (@Cll.g (@CQ.c x) ((0 : @Nat) + s))))), (AV.lit (Value.slice (@CQ.p x ((0 : @Nat) + s)) (0 : @Nat) (0 : @Nat)))]) = (AV.agg [(AV.lit (Value.int @IntKind.i64 (@Mem.kind (@Cll.g (@CQ.c x) ((0 : @Nat) + s))))), (AV.lit (Value.string (@Mem.key (@Cll.g (@CQ.c x) ((0 : @Nat) + s))))), (AV.lit (Value.string (@Mem.value (@Cll.g (@CQ.c x) ((0 : @Nat) + s))))), (AV.lit (Value.string (@Mem.to (@Cll.g (@CQ.c x) ((0 : @Nat) + s))))), (AV.lit (Value.slice (@CQ.p x ((0 : @Nat) + s)) (0 : @Nat) (0 : @Nat)))]))) ∧
  (((AV.slW (0 : @Nat) (0 : @Nat) (5 : @Nat) (@Cll.gn (@CQ.c x))) = (AV.slW (0 : @Nat) (0 : @Nat) (5 : @Nat) (@Cll.gn (@CQ.c x)))) ∧
  True)))) ∧
  ((((((0 : @Nat) + s) < (@Cll.gn (@CQ.c x))) ∧
  ((AV.agg [(AV.lit (Value.int @IntKind.i64 (@Mem.kind (@Cll.g (@CQ.c x) ((0 : @Nat) + s))))), (AV.lit (Value.string (@Mem.key (@Cll.g (@CQ.c x) ((0 : @Nat) + s))))), (AV.lit (Value.string (@Mem.value (@Cll.g (@CQ.c x) ((0 : @Nat) + s))))), (AV.lit (Value.string (@Mem.to (@Cll.g (@CQ.c x) ((0 : @Nat) + s))))), (AV.lit (Value.slice (@CQ.q x ((0 : @Nat) + s)) (0 : @Nat) (0 : @Nat)))]) = (AV.agg [(AV.lit (Value.int @IntKind.i64 (@Mem.kind (@Cll.g (@CQ.c x) ((0 : @Nat) + s))))), (AV.lit (Value.string (@Mem.key (@Cll.g (@CQ.c x) ((0 : @Nat) + s))))), (AV.lit (Value.string (@Mem.value (@Cll.g (@CQ.c x) ((0 : @Nat) + s))))), (AV.lit (Value.string (@Mem.to (@Cll.g (@CQ.c x) ((0 : @Nat) + s))))), (AV.lit (Value.slice (@CQ.q x ((0 : @Nat) + s)) (0 : @Nat) (0 : @Nat)))]))) ∧
  (((AV.slW (1 : @Nat) (0 : @Nat) (5 : @Nat) (@Cll.gn (@CQ.c x))) = (AV.slW (1 : @Nat) (0 : @Nat) (5 : @Nat) (@Cll.gn (@CQ.c x)))) ∧
  (((((0 : @Nat) + s) < (@Cll.gn (@CQ.c x))) ∧
  ((AV.agg [(AV.lit (Value.int @IntKind.i64 (@Mem.kind (@Cll.g (@CQ.c x) ((0 : @Nat) + s))))), (AV.lit (Value.string (@Mem.key (@Cll.g (@CQ.c x) ((0 : @Nat) + s))))), (AV.lit (Value.string (@Mem.value (@Cll.g (@CQ.c x) ((0 : @Nat) + s))))), (AV.lit (Value.string (@Mem.to (@Cll.g (@CQ.c x) ((0 : @Nat) + s))))), (AV.lit (Value.slice (@CQ.p x ((0 : @Nat) + s)) (0 : @Nat) (0 : @Nat)))]) = (AV.agg [(AV.lit (Value.int @IntKind.i64 (@Mem.kind (@Cll.g (@CQ.c x) ((0 : @Nat) + s))))), (AV.lit (Value.string (@Mem.key (@Cll.g (@CQ.c x) ((0 : @Nat) + s))))), (AV.lit (Value.string (@Mem.value (@Cll.g (@CQ.c x) ((0 : @Nat) + s))))), (AV.lit (Value.string (@Mem.to (@Cll.g (@CQ.c x) ((0 : @Nat) + s))))), (AV.lit (Value.slice (@CQ.p x ((0 : @Nat) + s)) (0 : @Nat) (0 : @Nat)))]))) ∧
  (((AV.slW (0 : @Nat) (0 : @Nat) (5 : @Nat) (@Cll.gn (@CQ.c x))) = (AV.slW (0 : @Nat) (0 : @Nat) (5 : @Nat) (@Cll.gn (@CQ.c x)))) ∧
  True)))) ∧
  ((((((0 : @Nat) + s) < (@Cll.gn (@CQ.c x))) ∧
  ((AV.agg [(AV.lit (Value.int @IntKind.i64 (@Mem.kind (@Cll.g (@CQ.c x) ((0 : @Nat) + s))))), (AV.lit (Value.string (@Mem.key (@Cll.g (@CQ.c x) ((0 : @Nat) + s))))), (AV.lit (Value.string (@Mem.value (@Cll.g (@CQ.c x) ((0 : @Nat) + s))))), (AV.lit (Value.string (@Mem.to (@Cll.g (@CQ.c x) ((0 : @Nat) + s))))), (AV.lit (Value.slice (@CQ.q x ((0 : @Nat) + s)) (0 : @Nat) (0 : @Nat)))]) = (AV.agg [(AV.lit (Value.int @IntKind.i64 (@Mem.kind (@Cll.g (@CQ.c x) ((0 : @Nat) + s))))), (AV.lit (Value.string (@Mem.key (@Cll.g (@CQ.c x) ((0 : @Nat) + s))))), (AV.lit (Value.string (@Mem.value (@Cll.g (@CQ.c x) ((0 : @Nat) + s))))), (AV.lit (Value.string (@Mem.to (@Cll.g (@CQ.c x) ((0 : @Nat) + s))))), (AV.lit (Value.slice (@CQ.q x ((0 : @Nat) + s)) (0 : @Nat) (0 : @Nat)))]))) ∧
  (((AV.slW (1 : @Nat) (0 : @Nat) (5 : @Nat) (@Cll.gn (@CQ.c x))) = (AV.slW (1 : @Nat) (0 : @Nat) (5 : @Nat) (@Cll.gn (@CQ.c x)))) ∧
  True)) ∧
  (True ∧
  (cP (@bne @Int (@instBEqOfDecidableEq @Int @Int.instDecidableEq) (@Mem.kind (@Cll.g (@CQ.c x) ((0 : @Nat) + s))) (@Mem.kind (@Cll.g (@CQ.c x) ((0 : @Nat) + s)))) (∃ (y : Unit), (True ∧
  ((@Bool.true = @Bool.false) ∧
  ((((@Cll.gn (@CQ.c x)) = (@Cll.gn (@CQ.c x))) ∧
  (∀ (q : @Nat), ((q < (@Cll.gn (@CQ.c x))) → ([(Value.int @IntKind.i64 (@Mem.kind (@Cll.g (@CQ.c x) q))), (Value.string (@Mem.key (@Cll.g (@CQ.c x) q))), (Value.string (@Mem.value (@Cll.g (@CQ.c x) q))), (Value.string (@Mem.to (@Cll.g (@CQ.c x) q))), (Value.slice (@CQ.p x q) (0 : @Nat) (0 : @Nat))] = [(Value.int @IntKind.i64 (@Mem.kind (@Cll.g (@CQ.c x) q))), (Value.string (@Mem.key (@Cll.g (@CQ.c x) q))), (Value.string (@Mem.value (@Cll.g (@CQ.c x) q))), (Value.string (@Mem.to (@Cll.g (@CQ.c x) q))), (Value.slice (@CQ.p x q) (0 : @Nat) (0 : @Nat))])))) ∧
  ((((@Cll.gn (@CQ.c x)) = (@Cll.gn (@CQ.c x))) ∧
  (∀ (q : @Nat), ((q < (@Cll.gn (@CQ.c x))) → ([(Value.int @IntKind.i64 (@Mem.kind (@Cll.g (@CQ.c x) q))), (Value.string (@Mem.key (@Cll.g (@CQ.c x) q))), (Value.string (@Mem.value (@Cll.g (@CQ.c x) q))), (Value.string (@Mem.to (@Cll.g (@CQ.c x) q))), (Value.slice (@CQ.q x q) (0 : @Nat) (0 : @Nat))] = [(Value.int @IntKind.i64 (@Mem.kind (@Cll.g (@CQ.c x) q))), (Value.string (@Mem.key (@Cll.g (@CQ.c x) q))), (Value.string (@Mem.value (@Cll.g (@CQ.c x) q))), (Value.string (@Mem.to (@Cll.g (@CQ.c x) q))), (Value.slice (@CQ.q x q) (0 : @Nat) (0 : @Nat))])))) ∧
  True))))) (cP (@Bool.not (@BEq.beq (@List @UInt8) (@List.instBEq @UInt8 (@instBEqOfDecidableEq @UInt8 @instDecidableEqUInt8)) (@ByteArray.toList (@Mem.key (@Cll.g (@CQ.c x) ((0 : @Nat) + s)))) (@ByteArray.toList (@Mem.key (@Cll.g (@CQ.c x) ((0 : @Nat) + s)))))) (∃ (y : Unit), (True ∧
  ((@Bool.true = @Bool.false) ∧
  ((((@Cll.gn (@CQ.c x)) = (@Cll.gn (@CQ.c x))) ∧
  (∀ (q : @Nat), ((q < (@Cll.gn (@CQ.c x))) → ([(Value.int @IntKind.i64 (@Mem.kind (@Cll.g (@CQ.c x) q))), (Value.string (@Mem.key (@Cll.g (@CQ.c x) q))), (Value.string (@Mem.value (@Cll.g (@CQ.c x) q))), (Value.string (@Mem.to (@Cll.g (@CQ.c x) q))), (Value.slice (@CQ.p x q) (0 : @Nat) (0 : @Nat))] = [(Value.int @IntKind.i64 (@Mem.kind (@Cll.g (@CQ.c x) q))), (Value.string (@Mem.key (@Cll.g (@CQ.c x) q))), (Value.string (@Mem.value (@Cll.g (@CQ.c x) q))), (Value.string (@Mem.to (@Cll.g (@CQ.c x) q))), (Value.slice (@CQ.p x q) (0 : @Nat) (0 : @Nat))])))) ∧
  ((((@Cll.gn (@CQ.c x)) = (@Cll.gn (@CQ.c x))) ∧
  (∀ (q : @Nat), ((q < (@Cll.gn (@CQ.c x))) → ([(Value.int @IntKind.i64 (@Mem.kind (@Cll.g (@CQ.c x) q))), (Value.string (@Mem.key (@Cll.g (@CQ.c x) q))), (Value.string (@Mem.value (@Cll.g (@CQ.c x) q))), (Value.string (@Mem.to (@Cll.g (@CQ.c x) q))), (Value.slice (@CQ.q x q) (0 : @Nat) (0 : @Nat))] = [(Value.int @IntKind.i64 (@Mem.kind (@Cll.g (@CQ.c x) q))), (Value.string (@Mem.key (@Cll.g (@CQ.c x) q))), (Value.string (@Mem.value (@Cll.g (@CQ.c x) q))), (Value.string (@Mem.to (@Cll.g (@CQ.c x) q))), (Value.slice (@CQ.q x q) (0 : @Nat) (0 : @Nat))])))) ∧
  True))))) (cP (@Bool.not (@BEq.beq (@List @UInt8) (@List.instBEq @UInt8 (@instBEqOfDecidableEq @UInt8 @instDecidableEqUInt8)) (@ByteArray.toList (@Mem.value (@Cll.g (@CQ.c x) ((0 : @Nat) + s)))) (@ByteArray.toList (@Mem.value (@Cll.g (@CQ.c x) ((0 : @Nat) + s)))))) (∃ (y : Unit), (True ∧
  ((@Bool.true = @Bool.false) ∧
  ((((@Cll.gn (@CQ.c x)) = (@Cll.gn (@CQ.c x))) ∧
  (∀ (q : @Nat), ((q < (@Cll.gn (@CQ.c x))) → ([(Value.int @IntKind.i64 (@Mem.kind (@Cll.g (@CQ.c x) q))), (Value.string (@Mem.key (@Cll.g (@CQ.c x) q))), (Value.string (@Mem.value (@Cll.g (@CQ.c x) q))), (Value.string (@Mem.to (@Cll.g (@CQ.c x) q))), (Value.slice (@CQ.p x q) (0 : @Nat) (0 : @Nat))] = [(Value.int @IntKind.i64 (@Mem.kind (@Cll.g (@CQ.c x) q))), (Value.string (@Mem.key (@Cll.g (@CQ.c x) q))), (Value.string (@Mem.value (@Cll.g (@CQ.c x) q))), (Value.string (@Mem.to (@Cll.g (@CQ.c x) q))), (Value.slice (@CQ.p x q) (0 : @Nat) (0 : @Nat))])))) ∧
  ((((@Cll.gn (@CQ.c x)) = (@Cll.gn (@CQ.c x))) ∧
  (∀ (q : @Nat), ((q < (@Cll.gn (@CQ.c x))) → ([(Value.int @IntKind.i64 (@Mem.kind (@Cll.g (@CQ.c x) q))), (Value.string (@Mem.key (@Cll.g (@CQ.c x) q))), (Value.string (@Mem.value (@Cll.g (@CQ.c x) q))), (Value.string (@Mem.to (@Cll.g (@CQ.c x) q))), (Value.slice (@CQ.q x q) (0 : @Nat) (0 : @Nat))] = [(Value.int @IntKind.i64 (@Mem.kind (@Cll.g (@CQ.c x) q))), (Value.string (@Mem.key (@Cll.g (@CQ.c x) q))), (Value.string (@Mem.value (@Cll.g (@CQ.c x) q))), (Value.string (@Mem.to (@Cll.g (@CQ.c x) q))), (Value.slice (@CQ.q x q) (0 : @Nat) (0 : @Nat))])))) ∧
  True))))) (cP (@Bool.not (@BEq.beq (@List @UInt8) (@List.instBEq @UInt8 (@instBEqOfDecidableEq @UInt8 @instDecidableEqUInt8)) (@ByteArray.toList (@Mem.to (@Cll.g (@CQ.c x) ((0 : @Nat) + s)))) (@ByteArray.toList (@Mem.to (@Cll.g (@CQ.c x) ((0 : @Nat) + s)))))) (∃ (y : Unit), (True ∧
  ((@Bool.true = @Bool.false) ∧
  ((((@Cll.gn (@CQ.c x)) = (@Cll.gn (@CQ.c x))) ∧
  (∀ (q : @Nat), ((q < (@Cll.gn (@CQ.c x))) → ([(Value.int @IntKind.i64 (@Mem.kind (@Cll.g (@CQ.c x) q))), (Value.string (@Mem.key (@Cll.g (@CQ.c x) q))), (Value.string (@Mem.value (@Cll.g (@CQ.c x) q))), (Value.string (@Mem.to (@Cll.g (@CQ.c x) q))), (Value.slice (@CQ.p x q) (0 : @Nat) (0 : @Nat))] = [(Value.int @IntKind.i64 (@Mem.kind (@Cll.g (@CQ.c x) q))), (Value.string (@Mem.key (@Cll.g (@CQ.c x) q))), (Value.string (@Mem.value (@Cll.g (@CQ.c x) q))), (Value.string (@Mem.to (@Cll.g (@CQ.c x) q))), (Value.slice (@CQ.p x q) (0 : @Nat) (0 : @Nat))])))) ∧
  ((((@Cll.gn (@CQ.c x)) = (@Cll.gn (@CQ.c x))) ∧
  (∀ (q : @Nat), ((q < (@Cll.gn (@CQ.c x))) → ([(Value.int @IntKind.i64 (@Mem.kind (@Cll.g (@CQ.c x) q))), (Value.string (@Mem.key (@Cll.g (@CQ.c x) q))), (Value.string (@Mem.value (@Cll.g (@CQ.c x) q))), (Value.string (@Mem.to (@Cll.g (@CQ.c x) q))), (Value.slice (@CQ.q x q) (0 : @Nat) (0 : @Nat))] = [(Value.int @IntKind.i64 (@Mem.kind (@Cll.g (@CQ.c x) q))), (Value.string (@Mem.key (@Cll.g (@CQ.c x) q))), (Value.string (@Mem.value (@Cll.g (@CQ.c x) q))), (Value.string (@Mem.to (@Cll.g (@CQ.c x) q))), (Value.slice (@CQ.q x q) (0 : @Nat) (0 : @Nat))])))) ∧
  True))))) ((@I64 (((s : Nat) : @Int) + (1 : @Int))) ∧
  (∃ (s_1 : @Nat), ((s_1 ≤ (@Cll.gn (@CQ.c x))) ∧
  ((((@Cll.gn (@CQ.c x)) - s_1) < ((@Cll.gn (@CQ.c x)) - s)) ∧
  (((((s_1 : Nat) : @Int) = (((s : Nat) : @Int) + (1 : @Int))) ∧
  True) ∧
  ((((@Cll.kind (@CQ.c x)) = (@Cll.kind (@CQ.c x))) ∧
  (((@Cll.key (@CQ.c x)) = (@Cll.key (@CQ.c x))) ∧
  (((@Cll.value (@CQ.c x)) = (@Cll.value (@CQ.c x))) ∧
  (((@Cll.to (@CQ.c x)) = (@Cll.to (@CQ.c x))) ∧
  ((((0 : @Nat) = (0 : @Nat)) ∧
  ((@Cll.gn (@CQ.c x)) = (@Cll.gn (@CQ.c x)))) ∧
  True))))) ∧
  ((((@Cll.kind (@CQ.c x)) = (@Cll.kind (@CQ.c x))) ∧
  (((@Cll.key (@CQ.c x)) = (@Cll.key (@CQ.c x))) ∧
  (((@Cll.value (@CQ.c x)) = (@Cll.value (@CQ.c x))) ∧
  (((@Cll.to (@CQ.c x)) = (@Cll.to (@CQ.c x))) ∧
  ((((0 : @Nat) = (0 : @Nat)) ∧
  ((@Cll.gn (@CQ.c x)) = (@Cll.gn (@CQ.c x)))) ∧
  True))))) ∧
  ((((@Cll.gn (@CQ.c x)) = (@Cll.gn (@CQ.c x))) ∧
  (∀ (q : @Nat), ((q < (@Cll.gn (@CQ.c x))) → ([(Value.int @IntKind.i64 (@Mem.kind (@Cll.g (@CQ.c x) q))), (Value.string (@Mem.key (@Cll.g (@CQ.c x) q))), (Value.string (@Mem.value (@Cll.g (@CQ.c x) q))), (Value.string (@Mem.to (@Cll.g (@CQ.c x) q))), (Value.slice (@CQ.q x q) (0 : @Nat) (0 : @Nat))] = [(Value.int @IntKind.i64 (@Mem.kind (@Cll.g (@CQ.c x) q))), (Value.string (@Mem.key (@Cll.g (@CQ.c x) q))), (Value.string (@Mem.value (@Cll.g (@CQ.c x) q))), (Value.string (@Mem.to (@Cll.g (@CQ.c x) q))), (Value.slice (@CQ.q x q) (0 : @Nat) (0 : @Nat))])))) ∧
  ((((@Cll.gn (@CQ.c x)) = (@Cll.gn (@CQ.c x))) ∧
  (∀ (q : @Nat), ((q < (@Cll.gn (@CQ.c x))) → ([(Value.int @IntKind.i64 (@Mem.kind (@Cll.g (@CQ.c x) q))), (Value.string (@Mem.key (@Cll.g (@CQ.c x) q))), (Value.string (@Mem.value (@Cll.g (@CQ.c x) q))), (Value.string (@Mem.to (@Cll.g (@CQ.c x) q))), (Value.slice (@CQ.p x q) (0 : @Nat) (0 : @Nat))] = [(Value.int @IntKind.i64 (@Mem.kind (@Cll.g (@CQ.c x) q))), (Value.string (@Mem.key (@Cll.g (@CQ.c x) q))), (Value.string (@Mem.value (@Cll.g (@CQ.c x) q))), (Value.string (@Mem.to (@Cll.g (@CQ.c x) q))), (Value.slice (@CQ.p x q) (0 : @Nat) (0 : @Nat))])))) ∧
  True))))))))))))))))) ∧
  ((((((0 : @Nat) + s) < (@Cll.gn (@CQ.c x))) ∧
  ((AV.agg [(AV.lit (Value.int @IntKind.i64 (@Mem.kind (@Cll.g (@CQ.c x) ((0 : @Nat) + s))))), (AV.lit (Value.string (@Mem.key (@Cll.g (@CQ.c x) ((0 : @Nat) + s))))), (AV.lit (Value.string (@Mem.value (@Cll.g (@CQ.c x) ((0 : @Nat) + s))))), (AV.lit (Value.string (@Mem.to (@Cll.g (@CQ.c x) ((0 : @Nat) + s))))), (AV.lit (Value.slice (@CQ.q x ((0 : @Nat) + s)) (0 : @Nat) (0 : @Nat)))]) = (AV.agg [(AV.lit (Value.int @IntKind.i64 (@Mem.kind (@Cll.g (@CQ.c x) ((0 : @Nat) + s))))), (AV.lit (Value.string (@Mem.key (@Cll.g (@CQ.c x) ((0 : @Nat) + s))))), (AV.lit (Value.string (@Mem.value (@Cll.g (@CQ.c x) ((0 : @Nat) + s))))), (AV.lit (Value.string (@Mem.to (@Cll.g (@CQ.c x) ((0 : @Nat) + s))))), (AV.lit (Value.slice (@CQ.q x ((0 : @Nat) + s)) (0 : @Nat) (0 : @Nat)))]))) ∧
  (((AV.slW (1 : @Nat) (0 : @Nat) (5 : @Nat) (@Cll.gn (@CQ.c x))) = (AV.slW (1 : @Nat) (0 : @Nat) (5 : @Nat) (@Cll.gn (@CQ.c x)))) ∧
  (((((0 : @Nat) + s) < (@Cll.gn (@CQ.c x))) ∧
  ((AV.agg [(AV.lit (Value.int @IntKind.i64 (@Mem.kind (@Cll.g (@CQ.c x) ((0 : @Nat) + s))))), (AV.lit (Value.string (@Mem.key (@Cll.g (@CQ.c x) ((0 : @Nat) + s))))), (AV.lit (Value.string (@Mem.value (@Cll.g (@CQ.c x) ((0 : @Nat) + s))))), (AV.lit (Value.string (@Mem.to (@Cll.g (@CQ.c x) ((0 : @Nat) + s))))), (AV.lit (Value.slice (@CQ.p x ((0 : @Nat) + s)) (0 : @Nat) (0 : @Nat)))]) = (AV.agg [(AV.lit (Value.int @IntKind.i64 (@Mem.kind (@Cll.g (@CQ.c x) ((0 : @Nat) + s))))), (AV.lit (Value.string (@Mem.key (@Cll.g (@CQ.c x) ((0 : @Nat) + s))))), (AV.lit (Value.string (@Mem.value (@Cll.g (@CQ.c x) ((0 : @Nat) + s))))), (AV.lit (Value.string (@Mem.to (@Cll.g (@CQ.c x) ((0 : @Nat) + s))))), (AV.lit (Value.slice (@CQ.p x ((0 : @Nat) + s)) (0 : @Nat) (0 : @Nat)))]))) ∧
  (((AV.slW (0 : @Nat) (0 : @Nat) (5 : @Nat) (@Cll.gn (@CQ.c x))) = (AV.slW (0 : @Nat) (0 : @Nat) (5 : @Nat) (@Cll.gn (@CQ.c x)))) ∧
  True)))) ∧
  ((((((0 : @Nat) + s) < (@Cll.gn (@CQ.c x))) ∧
  ((AV.agg [(AV.lit (Value.int @IntKind.i64 (@Mem.kind (@Cll.g (@CQ.c x) ((0 : @Nat) + s))))), (AV.lit (Value.string (@Mem.key (@Cll.g (@CQ.c x) ((0 : @Nat) + s))))), (AV.lit (Value.string (@Mem.value (@Cll.g (@CQ.c x) ((0 : @Nat) + s))))), (AV.lit (Value.string (@Mem.to (@Cll.g (@CQ.c x) ((0 : @Nat) + s))))), (AV.lit (Value.slice (@CQ.q x ((0 : @Nat) + s)) (0 : @Nat) (0 : @Nat)))]) = (AV.agg [(AV.lit (Value.int @IntKind.i64 (@Mem.kind (@Cll.g (@CQ.c x) ((0 : @Nat) + s))))), (AV.lit (Value.string (@Mem.key (@Cll.g (@CQ.c x) ((0 : @Nat) + s))))), (AV.lit (Value.string (@Mem.value (@Cll.g (@CQ.c x) ((0 : @Nat) + s))))), (AV.lit (Value.string (@Mem.to (@Cll.g (@CQ.c x) ((0 : @Nat) + s))))), (AV.lit (Value.slice (@CQ.q x ((0 : @Nat) + s)) (0 : @Nat) (0 : @Nat)))]))) ∧
  (((AV.slW (1 : @Nat) (0 : @Nat) (5 : @Nat) (@Cll.gn (@CQ.c x))) = (AV.slW (1 : @Nat) (0 : @Nat) (5 : @Nat) (@Cll.gn (@CQ.c x)))) ∧
  (((((0 : @Nat) + s) < (@Cll.gn (@CQ.c x))) ∧
  ((AV.agg [(AV.lit (Value.int @IntKind.i64 (@Mem.kind (@Cll.g (@CQ.c x) ((0 : @Nat) + s))))), (AV.lit (Value.string (@Mem.key (@Cll.g (@CQ.c x) ((0 : @Nat) + s))))), (AV.lit (Value.string (@Mem.value (@Cll.g (@CQ.c x) ((0 : @Nat) + s))))), (AV.lit (Value.string (@Mem.to (@Cll.g (@CQ.c x) ((0 : @Nat) + s))))), (AV.lit (Value.slice (@CQ.p x ((0 : @Nat) + s)) (0 : @Nat) (0 : @Nat)))]) = (AV.agg [(AV.lit (Value.int @IntKind.i64 (@Mem.kind (@Cll.g (@CQ.c x) ((0 : @Nat) + s))))), (AV.lit (Value.string (@Mem.key (@Cll.g (@CQ.c x) ((0 : @Nat) + s))))), (AV.lit (Value.string (@Mem.value (@Cll.g (@CQ.c x) ((0 : @Nat) + s))))), (AV.lit (Value.string (@Mem.to (@Cll.g (@CQ.c x) ((0 : @Nat) + s))))), (AV.lit (Value.slice (@CQ.p x ((0 : @Nat) + s)) (0 : @Nat) (0 : @Nat)))]))) ∧
  (((AV.slW (0 : @Nat) (0 : @Nat) (5 : @Nat) (@Cll.gn (@CQ.c x))) = (AV.slW (0 : @Nat) (0 : @Nat) (5 : @Nat) (@Cll.gn (@CQ.c x)))) ∧
  True)))) ∧
  ((((((0 : @Nat) + s) < (@Cll.gn (@CQ.c x))) ∧
  ((AV.agg [(AV.lit (Value.int @IntKind.i64 (@Mem.kind (@Cll.g (@CQ.c x) ((0 : @Nat) + s))))), (AV.lit (Value.string (@Mem.key (@Cll.g (@CQ.c x) ((0 : @Nat) + s))))), (AV.lit (Value.string (@Mem.value (@Cll.g (@CQ.c x) ((0 : @Nat) + s))))), (AV.lit (Value.string (@Mem.to (@Cll.g (@CQ.c x) ((0 : @Nat) + s))))), (AV.lit (Value.slice (@CQ.q x ((0 : @Nat) + s)) (0 : @Nat) (0 : @Nat)))]) = (AV.agg [(AV.lit (Value.int @IntKind.i64 (@Mem.kind (@Cll.g (@CQ.c x) ((0 : @Nat) + s))))), (AV.lit (Value.string (@Mem.key (@Cll.g (@CQ.c x) ((0 : @Nat) + s))))), (AV.lit (Value.string (@Mem.value (@Cll.g (@CQ.c x) ((0 : @Nat) + s))))), (AV.lit (Value.string (@Mem.to (@Cll.g (@CQ.c x) ((0 : @Nat) + s))))), (AV.lit (Value.slice (@CQ.q x ((0 : @Nat) + s)) (0 : @Nat) (0 : @Nat)))]))) ∧
  (((AV.slW (1 : @Nat) (0 : @Nat) (5 : @Nat) (@Cll.gn (@CQ.c x))) = (AV.slW (1 : @Nat) (0 : @Nat) (5 : @Nat) (@Cll.gn (@CQ.c x)))) ∧
  True)) ∧
  (True ∧
  (cP (@bne @Int (@instBEqOfDecidableEq @Int @Int.instDecidableEq) (@Mem.kind (@Cll.g (@CQ.c x) ((0 : @Nat) + s))) (@Mem.kind (@Cll.g (@CQ.c x) ((0 : @Nat) + s)))) (∃ (y : Unit), (True ∧
  ((@Bool.true = @Bool.false) ∧
  ((((@Cll.gn (@CQ.c x)) = (@Cll.gn (@CQ.c x))) ∧
  (∀ (q : @Nat), ((q < (@Cll.gn (@CQ.c x))) → ([(Value.int @IntKind.i64 (@Mem.kind (@Cll.g (@CQ.c x) q))), (Value.string (@Mem.key (@Cll.g (@CQ.c x) q))), (Value.string (@Mem.value (@Cll.g (@CQ.c x) q))), (Value.string (@Mem.to (@Cll.g (@CQ.c x) q))), (Value.slice (@CQ.p x q) (0 : @Nat) (0 : @Nat))] = [(Value.int @IntKind.i64 (@Mem.kind (@Cll.g (@CQ.c x) q))), (Value.string (@Mem.key (@Cll.g (@CQ.c x) q))), (Value.string (@Mem.value (@Cll.g (@CQ.c x) q))), (Value.string (@Mem.to (@Cll.g (@CQ.c x) q))), (Value.slice (@CQ.p x q) (0 : @Nat) (0 : @Nat))])))) ∧
  ((((@Cll.gn (@CQ.c x)) = (@Cll.gn (@CQ.c x))) ∧
  (∀ (q : @Nat), ((q < (@Cll.gn (@CQ.c x))) → ([(Value.int @IntKind.i64 (@Mem.kind (@Cll.g (@CQ.c x) q))), (Value.string (@Mem.key (@Cll.g (@CQ.c x) q))), (Value.string (@Mem.value (@Cll.g (@CQ.c x) q))), (Value.string (@Mem.to (@Cll.g (@CQ.c x) q))), (Value.slice (@CQ.q x q) (0 : @Nat) (0 : @Nat))] = [(Value.int @IntKind.i64 (@Mem.kind (@Cll.g (@CQ.c x) q))), (Value.string (@Mem.key (@Cll.g (@CQ.c x) q))), (Value.string (@Mem.value (@Cll.g (@CQ.c x) q))), (Value.string (@Mem.to (@Cll.g (@CQ.c x) q))), (Value.slice (@CQ.q x q) (0 : @Nat) (0 : @Nat))])))) ∧
  True))))) (cP (@Bool.not (@BEq.beq (@List @UInt8) (@List.instBEq @UInt8 (@instBEqOfDecidableEq @UInt8 @instDecidableEqUInt8)) (@ByteArray.toList (@Mem.key (@Cll.g (@CQ.c x) ((0 : @Nat) + s)))) (@ByteArray.toList (@Mem.key (@Cll.g (@CQ.c x) ((0 : @Nat) + s)))))) (∃ (y : Unit), (True ∧
  ((@Bool.true = @Bool.false) ∧
  ((((@Cll.gn (@CQ.c x)) = (@Cll.gn (@CQ.c x))) ∧
  (∀ (q : @Nat), ((q < (@Cll.gn (@CQ.c x))) → ([(Value.int @IntKind.i64 (@Mem.kind (@Cll.g (@CQ.c x) q))), (Value.string (@Mem.key (@Cll.g (@CQ.c x) q))), (Value.string (@Mem.value (@Cll.g (@CQ.c x) q))), (Value.string (@Mem.to (@Cll.g (@CQ.c x) q))), (Value.slice (@CQ.p x q) (0 : @Nat) (0 : @Nat))] = [(Value.int @IntKind.i64 (@Mem.kind (@Cll.g (@CQ.c x) q))), (Value.string (@Mem.key (@Cll.g (@CQ.c x) q))), (Value.string (@Mem.value (@Cll.g (@CQ.c x) q))), (Value.string (@Mem.to (@Cll.g (@CQ.c x) q))), (Value.slice (@CQ.p x q) (0 : @Nat) (0 : @Nat))])))) ∧
  ((((@Cll.gn (@CQ.c x)) = (@Cll.gn (@CQ.c x))) ∧
  (∀ (q : @Nat), ((q < (@Cll.gn (@CQ.c x))) → ([(Value.int @IntKind.i64 (@Mem.kind (@Cll.g (@CQ.c x) q))), (Value.string (@Mem.key (@Cll.g (@CQ.c x) q))), (Value.string (@Mem.value (@Cll.g (@CQ.c x) q))), (Value.string (@Mem.to (@Cll.g (@CQ.c x) q))), (Value.slice (@CQ.q x q) (0 : @Nat) (0 : @Nat))] = [(Value.int @IntKind.i64 (@Mem.kind (@Cll.g (@CQ.c x) q))), (Value.string (@Mem.key (@Cll.g (@CQ.c x) q))), (Value.string (@Mem.value (@Cll.g (@CQ.c x) q))), (Value.string (@Mem.to (@Cll.g (@CQ.c x) q))), (Value.slice (@CQ.q x q) (0 : @Nat) (0 : @Nat))])))) ∧
  True))))) (cP (@Bool.not (@BEq.beq (@List @UInt8) (@List.instBEq @UInt8 (@instBEqOfDecidableEq @UInt8 @instDecidableEqUInt8)) (@ByteArray.toList (@Mem.value (@Cll.g (@CQ.c x) ((0 : @Nat) + s)))) (@ByteArray.toList (@Mem.value (@Cll.g (@CQ.c x) ((0 : @Nat) + s)))))) (∃ (y : Unit), (True ∧
  ((@Bool.true = @Bool.false) ∧
  ((((@Cll.gn (@CQ.c x)) = (@Cll.gn (@CQ.c x))) ∧
  (∀ (q : @Nat), ((q < (@Cll.gn (@CQ.c x))) → ([(Value.int @IntKind.i64 (@Mem.kind (@Cll.g (@CQ.c x) q))), (Value.string (@Mem.key (@Cll.g (@CQ.c x) q))), (Value.string (@Mem.value (@Cll.g (@CQ.c x) q))), (Value.string (@Mem.to (@Cll.g (@CQ.c x) q))), (Value.slice (@CQ.p x q) (0 : @Nat) (0 : @Nat))] = [(Value.int @IntKind.i64 (@Mem.kind (@Cll.g (@CQ.c x) q))), (Value.string (@Mem.key (@Cll.g (@CQ.c x) q))), (Value.string (@Mem.value (@Cll.g (@CQ.c x) q))), (Value.string (@Mem.to (@Cll.g (@CQ.c x) q))), (Value.slice (@CQ.p x q) (0 : @Nat) (0 : @Nat))])))) ∧
  ((((@Cll.gn (@CQ.c x)) = (@Cll.gn (@CQ.c x))) ∧
  (∀ (q : @Nat), ((q < (@Cll.gn (@CQ.c x))) → ([(Value.int @IntKind.i64 (@Mem.kind (@Cll.g (@CQ.c x) q))), (Value.string (@Mem.key (@Cll.g (@CQ.c x) q))), (Value.string (@Mem.value (@Cll.g (@CQ.c x) q))), (Value.string (@Mem.to (@Cll.g (@CQ.c x) q))), (Value.slice (@CQ.q x q) (0 : @Nat) (0 : @Nat))] = [(Value.int @IntKind.i64 (@Mem.kind (@Cll.g (@CQ.c x) q))), (Value.string (@Mem.key (@Cll.g (@CQ.c x) q))), (Value.string (@Mem.value (@Cll.g (@CQ.c x) q))), (Value.string (@Mem.to (@Cll.g (@CQ.c x) q))), (Value.slice (@CQ.q x q) (0 : @Nat) (0 : @Nat))])))) ∧
  True))))) (cP (@Bool.not (@BEq.beq (@List @UInt8) (@List.instBEq @UInt8 (@instBEqOfDecidableEq @UInt8 @instDecidableEqUInt8)) (@ByteArray.toList (@Mem.to (@Cll.g (@CQ.c x) ((0 : @Nat) + s)))) (@ByteArray.toList (@Mem.to (@Cll.g (@CQ.c x) ((0 : @Nat) + s)))))) (∃ (y : Unit), (True ∧
  ((@Bool.true = @Bool.false) ∧
  ((((@Cll.gn (@CQ.c x)) = (@Cll.gn (@CQ.c x))) ∧
  (∀ (q : @Nat), ((q < (@Cll.gn (@CQ.c x))) → ([(Value.int @IntKind.i64 (@Mem.kind (@Cll.g (@CQ.c x) q))), (Value.string (@Mem.key (@Cll.g (@CQ.c x) q))), (Value.string (@Mem.value (@Cll.g (@CQ.c x) q))), (Value.string (@Mem.to (@Cll.g (@CQ.c x) q))), (Value.slice (@CQ.p x q) (0 : @Nat) (0 : @Nat))] = [(Value.int @IntKind.i64 (@Mem.kind (@Cll.g (@CQ.c x) q))), (Value.string (@Mem.key (@Cll.g (@CQ.c x) q))), (Value.string (@Mem.value (@Cll.g (@CQ.c x) q))), (Value.string (@Mem.to (@Cll.g (@CQ.c x) q))), (Value.slice (@CQ.p x q) (0 : @Nat) (0 : @Nat))])))) ∧
  ((((@Cll.gn (@CQ.c x)) = (@Cll.gn (@CQ.c x))) ∧
  (∀ (q : @Nat), ((q < (@Cll.gn (@CQ.c x))) → ([(Value.int @IntKind.i64 (@Mem.kind (@Cll.g (@CQ.c x) q))), (Value.string (@Mem.key (@Cll.g (@CQ.c x) q))), (Value.string (@Mem.value (@Cll.g (@CQ.c x) q))), (Value.string (@Mem.to (@Cll.g (@CQ.c x) q))), (Value.slice (@CQ.q x q) (0 : @Nat) (0 : @Nat))] = [(Value.int @IntKind.i64 (@Mem.kind (@Cll.g (@CQ.c x) q))), (Value.string (@Mem.key (@Cll.g (@CQ.c x) q))), (Value.string (@Mem.value (@Cll.g (@CQ.c x) q))), (Value.string (@Mem.to (@Cll.g (@CQ.c x) q))), (Value.slice (@CQ.q x q) (0 : @Nat) (0 : @Nat))])))) ∧
  True))))) ((@I64 (((s : Nat) : @Int) + (1 : @Int))) ∧
  (∃ (s_1 : @Nat), ((s_1 ≤ (@Cll.gn (@CQ.c x))) ∧
  ((((@Cll.gn (@CQ.c x)) - s_1) < ((@Cll.gn (@CQ.c x)) - s)) ∧
  (((((s_1 : Nat) : @Int) = (((s : Nat) : @Int) + (1 : @Int))) ∧
  True) ∧
  ((((@Cll.kind (@CQ.c x)) = (@Cll.kind (@CQ.c x))) ∧
  (((@Cll.key (@CQ.c x)) = (@Cll.key (@CQ.c x))) ∧
  (((@Cll.value (@CQ.c x)) = (@Cll.value (@CQ.c x))) ∧
  (((@Cll.to (@CQ.c x)) = (@Cll.to (@CQ.c x))) ∧
  ((((0 : @Nat) = (0 : @Nat)) ∧
  ((@Cll.gn (@CQ.c x)) = (@Cll.gn (@CQ.c x)))) ∧
  True))))) ∧
  ((((@Cll.kind (@CQ.c x)) = (@Cll.kind (@CQ.c x))) ∧
  (((@Cll.key (@CQ.c x)) = (@Cll.key (@CQ.c x))) ∧
  (((@Cll.value (@CQ.c x)) = (@Cll.value (@CQ.c x))) ∧
  (((@Cll.to (@CQ.c x)) = (@Cll.to (@CQ.c x))) ∧
  ((((0 : @Nat) = (0 : @Nat)) ∧
  ((@Cll.gn (@CQ.c x)) = (@Cll.gn (@CQ.c x)))) ∧
  True))))) ∧
  ((((@Cll.gn (@CQ.c x)) = (@Cll.gn (@CQ.c x))) ∧
  (∀ (q : @Nat), ((q < (@Cll.gn (@CQ.c x))) → ([(Value.int @IntKind.i64 (@Mem.kind (@Cll.g (@CQ.c x) q))), (Value.string (@Mem.key (@Cll.g (@CQ.c x) q))), (Value.string (@Mem.value (@Cll.g (@CQ.c x) q))), (Value.string (@Mem.to (@Cll.g (@CQ.c x) q))), (Value.slice (@CQ.q x q) (0 : @Nat) (0 : @Nat))] = [(Value.int @IntKind.i64 (@Mem.kind (@Cll.g (@CQ.c x) q))), (Value.string (@Mem.key (@Cll.g (@CQ.c x) q))), (Value.string (@Mem.value (@Cll.g (@CQ.c x) q))), (Value.string (@Mem.to (@Cll.g (@CQ.c x) q))), (Value.slice (@CQ.q x q) (0 : @Nat) (0 : @Nat))])))) ∧
  ((((@Cll.gn (@CQ.c x)) = (@Cll.gn (@CQ.c x))) ∧
  (∀ (q : @Nat), ((q < (@Cll.gn (@CQ.c x))) → ([(Value.int @IntKind.i64 (@Mem.kind (@Cll.g (@CQ.c x) q))), (Value.string (@Mem.key (@Cll.g (@CQ.c x) q))), (Value.string (@Mem.value (@Cll.g (@CQ.c x) q))), (Value.string (@Mem.to (@Cll.g (@CQ.c x) q))), (Value.slice (@CQ.p x q) (0 : @Nat) (0 : @Nat))] = [(Value.int @IntKind.i64 (@Mem.kind (@Cll.g (@CQ.c x) q))), (Value.string (@Mem.key (@Cll.g (@CQ.c x) q))), (Value.string (@Mem.value (@Cll.g (@CQ.c x) q))), (Value.string (@Mem.to (@Cll.g (@CQ.c x) q))), (Value.slice (@CQ.p x q) (0 : @Nat) (0 : @Nat))])))) ∧
  True)))))))))))))))))))))) (∃ (y : Unit), (True ∧
  ((@Bool.true = @Bool.true) ∧
  ((((@Cll.gn (@CQ.c x)) = (@Cll.gn (@CQ.c x))) ∧
  (∀ (q : @Nat), ((q < (@Cll.gn (@CQ.c x))) → ([(Value.int @IntKind.i64 (@Mem.kind (@Cll.g (@CQ.c x) q))), (Value.string (@Mem.key (@Cll.g (@CQ.c x) q))), (Value.string (@Mem.value (@Cll.g (@CQ.c x) q))), (Value.string (@Mem.to (@Cll.g (@CQ.c x) q))), (Value.slice (@CQ.p x q) (0 : @Nat) (0 : @Nat))] = [(Value.int @IntKind.i64 (@Mem.kind (@Cll.g (@CQ.c x) q))), (Value.string (@Mem.key (@Cll.g (@CQ.c x) q))), (Value.string (@Mem.value (@Cll.g (@CQ.c x) q))), (Value.string (@Mem.to (@Cll.g (@CQ.c x) q))), (Value.slice (@CQ.p x q) (0 : @Nat) (0 : @Nat))])))) ∧
  ((((@Cll.gn (@CQ.c x)) = (@Cll.gn (@CQ.c x))) ∧
  (∀ (q : @Nat), ((q < (@Cll.gn (@CQ.c x))) → ([(Value.int @IntKind.i64 (@Mem.kind (@Cll.g (@CQ.c x) q))), (Value.string (@Mem.key (@Cll.g (@CQ.c x) q))), (Value.string (@Mem.value (@Cll.g (@CQ.c x) q))), (Value.string (@Mem.to (@Cll.g (@CQ.c x) q))), (Value.slice (@CQ.q x q) (0 : @Nat) (0 : @Nat))] = [(Value.int @IntKind.i64 (@Mem.kind (@Cll.g (@CQ.c x) q))), (Value.string (@Mem.key (@Cll.g (@CQ.c x) q))), (Value.string (@Mem.value (@Cll.g (@CQ.c x) q))), (Value.string (@Mem.to (@Cll.g (@CQ.c x) q))), (Value.slice (@CQ.q x q) (0 : @Nat) (0 : @Nat))])))) ∧
  True)))))))) ∧
  True)))))))
theorem sameCWVC_ok (x : CQ) : sameCWVC x = sameCWVC_wp x := by kernel_rfl
def sameFNVC_wp (x : Cll) : Prop := wpF Tryz.prog [(53, ctrT sameBC), (56, ctrT sameCN)] tt noAn 200 6 16 (sameFN.args x) (hO sameFN.k (sameFN.os x)) (fun v h' => endsP sameFN.k x v h' sameFN.outs)
def sameFNVC (x : Cll) : Prop :=
  (∃ (x_1 : Unit), (True ∧
  ((((Value.slice (@Option.none @Addr) (0 : @Nat) (0 : @Nat)) = (Value.slice (@Option.none @Addr) (0 : @Nat) (0 : @Nat))) ∧
  (((Value.slice (@Option.none @Addr) (0 : @Nat) (0 : @Nat)) = (Value.slice (@Option.none @Addr) (0 : @Nat) (0 : @Nat))) ∧
  True)) ∧
  (True ∧
  (∀ (y : Unit), (True → (∃ (x_2 : @Cll), (True ∧
  (((((@Cll.kind x_2) = (@Cll.kind x)) ∧
  (((@Cll.key x_2) = (@Cll.key x)) ∧
  (((@Cll.value x_2) = (@Cll.value x)) ∧
  (((@Cll.to x_2) = (@Cll.to x)) ∧
  (((Value.slice (@Option.none @Addr) (0 : @Nat) (0 : @Nat)) = (Value.slice (@Option.none @Addr) (0 : @Nat) (0 : @Nat))) ∧
  True))))) ∧
  ((((@Cll.kind x_2) = (@Cll.kind x)) ∧
  (((@Cll.key x_2) = (@Cll.key x)) ∧
  (((@Cll.value x_2) = (@Cll.value x)) ∧
  (((@Cll.to x_2) = (@Cll.to x)) ∧
  (((Value.slice (@Option.none @Addr) (0 : @Nat) (0 : @Nat)) = (Value.slice (@Option.none @Addr) (0 : @Nat) (0 : @Nat))) ∧
  True))))) ∧
  True)) ∧
  (True ∧
  (∀ (y_1 : Unit), (True → (∃ (y_2 : Unit), (True ∧
  ((@Bool.true = @Bool.true) ∧
  True)))))))))))))))
theorem sameFNVC_ok (x : Cll) : sameFNVC x = sameFNVC_wp x := by kernel_rfl
def sameFWVC_wp (x : CQ) : Prop := wpF Tryz.prog [(53, ctrT sameBC), (56, ctrT sameCW)] tt noAn 200 6 16 (sameFW.args x) (hO sameFW.k (sameFW.os x)) (fun v h' => endsP sameFW.k x v h' sameFW.outs)
def sameFWVC (x : CQ) : Prop :=
  (∃ (x_1 : Unit), (True ∧
  ((((Value.slice (@Option.none @Addr) (0 : @Nat) (0 : @Nat)) = (Value.slice (@Option.none @Addr) (0 : @Nat) (0 : @Nat))) ∧
  (((Value.slice (@Option.none @Addr) (0 : @Nat) (0 : @Nat)) = (Value.slice (@Option.none @Addr) (0 : @Nat) (0 : @Nat))) ∧
  True)) ∧
  (True ∧
  (∀ (y : Unit), (True → (∃ (x_2 : @CQ), ((@Hd (@CQ.ok x_2)) ∧
  (((((@Cll.kind (@CQ.c x_2)) = (@Cll.kind (@CQ.c x))) ∧
  (((@Cll.key (@CQ.c x_2)) = (@Cll.key (@CQ.c x))) ∧
  (((@Cll.value (@CQ.c x_2)) = (@Cll.value (@CQ.c x))) ∧
  (((@Cll.to (@CQ.c x_2)) = (@Cll.to (@CQ.c x))) ∧
  ((((0 : @Nat) = (0 : @Nat)) ∧
  ((@Cll.gn (@CQ.c x_2)) = (@Cll.gn (@CQ.c x)))) ∧
  True))))) ∧
  ((((@Cll.kind (@CQ.c x_2)) = (@Cll.kind (@CQ.c x))) ∧
  (((@Cll.key (@CQ.c x_2)) = (@Cll.key (@CQ.c x))) ∧
  (((@Cll.value (@CQ.c x_2)) = (@Cll.value (@CQ.c x))) ∧
  (((@Cll.to (@CQ.c x_2)) = (@Cll.to (@CQ.c x))) ∧
  ((((0 : @Nat) = (0 : @Nat)) ∧
  ((@Cll.gn (@CQ.c x_2)) = (@Cll.gn (@CQ.c x)))) ∧
  True))))) ∧
  True)) ∧
  (((((@Cll.gn (@CQ.c x_2)) = (@Cll.gn (@CQ.c x))) ∧
  (∀ (q : @Nat), ((q < (@Cll.gn (@CQ.c x_2))) → ([(Value.int @IntKind.i64 (@Mem.kind (@Cll.g (@CQ.c x_2) q))), (Value.string (@Mem.key (@Cll.g (@CQ.c x_2) q))), (Value.string (@Mem.value (@Cll.g (@CQ.c x_2) q))), (Value.string (@Mem.to (@Cll.g (@CQ.c x_2) q))), (Value.slice (@CQ.p x_2 q) (0 : @Nat) (0 : @Nat))] = [(Value.int @IntKind.i64 (@Mem.kind (@Cll.g (@CQ.c x) q))), (Value.string (@Mem.key (@Cll.g (@CQ.c x) q))), (Value.string (@Mem.value (@Cll.g (@CQ.c x) q))), (Value.string (@Mem.to (@Cll.g (@CQ.c x) q))), (Value.slice (@CQ.p x q) (0 : @Nat) (0 : @Nat))])))) ∧
  ((((@Cll.gn (@CQ.c x_2)) = (@Cll.gn (@CQ.c x))) ∧
  (∀ (q : @Nat), ((q < (@Cll.gn (@CQ.c x_2))) → ([(Value.int @IntKind.i64 (@Mem.kind (@Cll.g (@CQ.c x_2) q))), (Value.string (@Mem.key (@Cll.g (@CQ.c x_2) q))), (Value.string (@Mem.value (@Cll.g (@CQ.c x_2) q))), (Value.string (@Mem.to (@Cll.g (@CQ.c x_2) q))), (Value.slice (@CQ.q x_2 q) (0 : @Nat) (0 : @Nat))] = [(Value.int @IntKind.i64 (@Mem.kind (@Cll.g (@CQ.c x) q))), (Value.string (@Mem.key (@Cll.g (@CQ.c x) q))), (Value.string (@Mem.value (@Cll.g (@CQ.c x) q))), (Value.string (@Mem.to (@Cll.g (@CQ.c x) q))), (Value.slice (@CQ.q x q) (0 : @Nat) (0 : @Nat))])))) ∧
  True)) ∧
  (∀ (y_1 : Unit), (True → (∃ (y_2 : Unit), (True ∧
  ((@Bool.true = @Bool.true) ∧
  ((((@Cll.gn (@CQ.c x)) = (@Cll.gn (@CQ.c x_2))) ∧
  (∀ (q : @Nat), ((q < (@Cll.gn (@CQ.c x))) → ([(Value.int @IntKind.i64 (@Mem.kind (@Cll.g (@CQ.c x) q))), (Value.string (@Mem.key (@Cll.g (@CQ.c x) q))), (Value.string (@Mem.value (@Cll.g (@CQ.c x) q))), (Value.string (@Mem.to (@Cll.g (@CQ.c x) q))), (Value.slice (@CQ.p x q) (0 : @Nat) (0 : @Nat))] = [(Value.int @IntKind.i64 (@Mem.kind (@Cll.g (@CQ.c x_2) q))), (Value.string (@Mem.key (@Cll.g (@CQ.c x_2) q))), (Value.string (@Mem.value (@Cll.g (@CQ.c x_2) q))), (Value.string (@Mem.to (@Cll.g (@CQ.c x_2) q))), (Value.slice (@CQ.p x_2 q) (0 : @Nat) (0 : @Nat))])))) ∧
  ((((@Cll.gn (@CQ.c x)) = (@Cll.gn (@CQ.c x_2))) ∧
  (∀ (q : @Nat), ((q < (@Cll.gn (@CQ.c x))) → ([(Value.int @IntKind.i64 (@Mem.kind (@Cll.g (@CQ.c x) q))), (Value.string (@Mem.key (@Cll.g (@CQ.c x) q))), (Value.string (@Mem.value (@Cll.g (@CQ.c x) q))), (Value.string (@Mem.to (@Cll.g (@CQ.c x) q))), (Value.slice (@CQ.q x q) (0 : @Nat) (0 : @Nat))] = [(Value.int @IntKind.i64 (@Mem.kind (@Cll.g (@CQ.c x_2) q))), (Value.string (@Mem.key (@Cll.g (@CQ.c x_2) q))), (Value.string (@Mem.value (@Cll.g (@CQ.c x_2) q))), (Value.string (@Mem.to (@Cll.g (@CQ.c x_2) q))), (Value.slice (@CQ.q x_2 q) (0 : @Nat) (0 : @Nat))])))) ∧
  True)))))))))))))))))
theorem sameFWVC_ok (x : CQ) : sameFWVC x = sameFWVC_wp x := by kernel_rfl
def cloneNVC_wp (x : Unit) : Prop := wpF Tryz.prog [] tt noAn 200 6 43 (cloneNC.args x) (hO cloneNC.k (cloneNC.os x)) (fun v h' => endsP cloneNC.k x v h' cloneNC.outs)
def cloneNVC (x : Unit) : Prop :=
  (∃ (y : Unit), (True ∧ (((Value.slice (@Option.none @Addr) (0 : @Nat) (0 : @Nat)) = (Value.slice (@Option.none @Addr) (0 : @Nat) (0 : @Nat))) ∧ True)))
theorem cloneNVC_ok (x : Unit) : cloneNVC x = cloneNVC_wp x := by kernel_rfl
end Go.Proofs.YtnlpcbdmllpddaaGreat
end
