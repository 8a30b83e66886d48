import Derived.Test.YtjndgegfonhhfaaWba
import Derived.Test.YtjndgegfonhhfaaWbb
import Derived.Test.YtjndgegfonhhfaaWbc
import Derived.Test.YtjndgegfonhhfaaWbd
import Derived.Test.YtjndgegfonhhfaaWbe
import Derived.KernelRfl
set_option linter.unusedVariables false
set_option linter.unusedSimpArgs false
section
/- A store in work: pairs laid in, and taken out: contracts. -/
namespace Go.Proofs.Ytjndgegfonhhfaa
open Go SE
noncomputable section
theorem isExt_over : IsExt Try.prog 122 (Extern.SlicesOverlaps.overlaps #[22, 22] #[4]) := ⟨Try.f122, by kernel_rfl, by kernel_rfl, by kernel_rfl, by kernel_rfl, by kernel_rfl⟩
theorem sizePair : ∀ w, (Go.sizeOf 73).run Try.prog w = .ok 2 w := fun w => by rw [Try.sizeOf73]
def tblO : WTbl := [(122, overX)]
theorem tblO_ok : TblOk Try.prog tblO := .consX (overX_ok isExt_over Try.underlying22 sizePair) .nil
/-- Pairs, and one to be laid in at a place. -/
structure IP where
  s : Shf
  i : Nat
  key : BA
  value : BA
def insF {α : Type} (f : Nat → α) (i : Nat) (x : α) (q : Nat) : α := bif Nat.blt q i then f q else bif Nat.beq q i then x else f (q - 1)
def insS (s : Shf) (i : Nat) (key value : BA) : Shf := { s with n := s.n + 1, pk := insF s.pk i key, pv := insF s.pv i value }
def pairO (key value : BA) : AObj := .cells 73 (.av [str key, str value])
def roomP (s : Shf) : AObj := .room 73 (rowP s)
/-- Into none. -/
def insNC : Ctr := det (BA × BA) (fun x => [nilS, i64 0, .sl 0 0 1 1]) 1 (fun x => [pairO x.1 x.2]) (fun _ => True) (fun _ => .slW 1 0 2 1) 2 (fun x => [pairO x.1 x.2, .room 73 (.row 2 1 (fun _ => [.string x.1, .string x.2]) [])])
/-- Where the room is known. -/
def insRow (x : IP) (c : Nat) : Cs := .row 2 c (fun q => bif Nat.blt q (x.s.n + 1) then [.string (insF x.s.pk x.i x.key q), .string (insF x.s.pv x.i x.value q)] else []) []
def openRow (s : Shf) (c : Nat) : Cs := .row 2 c (fun q => bif Nat.blt q s.n then [.string (s.pk q), .string (s.pv q)] else []) []
def insEC : Ctr := { X := IP × Nat, args := fun x => [.slE 0 0 2 x.1.s.n x.2, i64 x.1.i, .sl 1 0 1 1], k := 2, os := fun x => [.room 73 (openRow x.1.s x.2), pairO x.1.key x.1.value], pre := fun x => Hd (x.1.i ≤ x.1.s.n ∧ x.1.s.n ≤ x.2 ∧ x.1.s.n ≤ 100), outs := [
  { Y := Unit, post := fun x _ => Hd (x.1.s.n + 1 ≤ x.2), ret := fun x _ => .slE 0 0 2 (x.1.s.n + 1) x.2, m := 2, os := fun x _ => [.room 73 (insRow x.1 x.2), pairO x.1.key x.1.value] },
  { Y := Unit, post := fun _ _ => True, ret := fun x _ => .slW 2 0 2 (x.1.s.n + 1), m := 3, os := fun x _ => [.room 73 (openRow x.1.s x.2), pairO x.1.key x.1.value, roomP (insS x.1.s x.1.i x.1.key x.1.value)] }] }
/-- As it is called. -/
def insC : Ctr := det IP (fun x => [.slW 0 0 2 x.s.n, i64 x.i, .sl 1 0 1 1]) 2 (fun x => [roomP x.s, pairO x.key x.value]) (fun x => Hd (x.i ≤ x.s.n ∧ x.s.n ≤ 100)) (fun x => .slW 2 0 2 (x.s.n + 1)) 3 (fun x => [.abs topS, pairO x.key x.value, roomP (insS x.s x.i x.key x.value)])
/-! ### Out of it -/
/-- Behind j pairs looked at, of which i stay. -/
def delI (s : Shf) (key : BA) (c : Shf) (i j : Nat) : Prop := (∀ q, j ≤ q → q < s.n → c.pk q = s.pk q ∧ c.pv q = s.pv q) ∧ (∀ k', eqB k' key = false → ((∃ q, q < i ∧ eqB (c.pk q) k' = true) ↔ ∃ q, q < j ∧ eqB (s.pk q) k' = true)) ∧ ∃ q, q < j ∧ eqB (s.pk q) key = true
def dropR (s : Shf) (key : BA) (y : Shf) : Prop := y.n < s.n ∧ hadM s key = true ∧ ∀ k', eqB k' key = false → hadM y k' = hadM s k'
def anDel (x : SK) : FuncId → Anns := fun f => bif Nat.beq f 103 then (fun b _ _ => bif Nat.beq b 0 then
    [{ σ := Nat, fr := fun i => [(8, i64 i)], ob := fun _ => [], inv := fun i => i ≤ x.s.n ∧ Hd (∀ j, j < i → eqB (x.s.pk j) x.key = false), meas := fun i => x.s.n - i }] else [])
  else bif Nat.beq f 112 then (fun b _ _ => bif Nat.beq b 0 then
    [{ σ := (Nat × Nat) × Shf, fr := fun p => [(6, i64 p.1.1), (5, i64 p.1.2)], ob := fun p => [(0, some (.room 73 (.row 2 x.s.n (fun q => [.string (p.2.pk q), .string (p.2.pv q)]) [])))], inv := fun p => p.1.2 < p.1.1 ∧ p.1.1 ≤ x.s.n ∧ Hd (delI x.s x.key p.2 p.1.2 p.1.1), meas := fun p => x.s.n - p.1.1 }] else []) else fun _ _ _ => []
def keyO (key : BA) : AObj := .cells 9 (.av [str key])
def delFn : AV := .fn (.func 113) [] [.ptr 1 0]
def cutO (N : Nat) (y : Shf) : AObj := .room 73 (.row 2 N (fun q => bif Nat.blt q y.n then [.string (y.pk q), .string (y.pv q)] else [.string es, .string es]) [])
def delEC : Ctr := { X := SK, args := fun x => [.slW 0 0 2 x.s.n, delFn], k := 2, os := fun x => [roomP x.s, keyO x.key], pre := fun x => Hd (x.s.n ≤ 100 ∧ ∀ k, k < x.s.n → (x.s.pk k).size ≤ 1500) , outs := [
  { Y := Unit, post := fun x _ => Hd (hadM x.s x.key = false), ret := fun x _ => .slW 0 0 2 x.s.n, m := 2, os := fun x _ => [roomP x.s, keyO x.key] },
  { Y := Shf, post := fun x y => Hd (dropR x.s x.key y), ret := fun x y => .slW 0 0 2 y.n, m := 2, os := fun x y => [cutO x.s.n y, keyO x.key] }] }
def delNC : Ctr := det BA (fun key => [nilS, .fn (.func 113) [] [.ptr 0 0]]) 1 (fun key => [keyO key]) (fun _ => True) (fun _ => nilS) 1 (fun key => [keyO key])
def delPC : Ctr := { X := SK, args := fun x => [.slW 0 0 2 x.s.n, delFn], k := 2, os := fun x => [roomP x.s, keyO x.key], pre := fun x => Hd (x.s.n ≤ 100 ∧ ∀ k, k < x.s.n → (x.s.pk k).size ≤ 1500) , outs := [
  { Y := Unit, post := fun x _ => Hd (hadM x.s x.key = false), ret := fun x _ => .slW 0 0 2 x.s.n, m := 2, os := fun x _ => [roomP x.s, keyO x.key] },
  { Y := Shf, post := fun x y => Hd (dropR x.s x.key y), ret := fun x y => .slW 2 0 2 y.n, m := 3, os := fun x y => [.abs topS, keyO x.key, roomP y] }] }
end
end Go.Proofs.Ytjndgegfonhhfaa
end
section
/- A store in work: pairs laid in, and taken out: what is asked. -/
namespace Go.Proofs.Ytjndgegfonhhfaa
open Go SE
def insNVC_wp (x : BA × BA) : Prop := wpF Try.prog tblO tt noAn 200 6 111 (insNC.args x) (hO insNC.k (insNC.os x)) (fun v h' => endsP insNC.k x v h' insNC.outs)
def insNVC (x : BA × BA) : Prop :=
  (((0 : Int) ≤ (0 : Int)) ∧ (((0 ≤ 0) ∧ ((0 ≤ 0) ∧ (0 ≤ 0))) ∧ (((((2 * (0 + 1)) + 1000) * 32) ≤ 281474976710656) ∧ (∃ (y : Unit), (True ∧ (((0 = 0) ∧ (1 = 1)) ∧ (((x.1 = x.1) ∧ ((x.2 = x.2) ∧ True)) ∧ (((1 = (0 + (@List.length (@List Value) [(@List.take Value 2 [(Value.string x.1), (Value.string x.2)])]))) ∧ (∀ (q : Nat), ((q < 1) → ([(Value.string x.1), (Value.string x.2)] = (@Cs.eff (fun (x_1 : Nat) => (@List.nil Value)) [(@Prod.mk Nat (@List Value) 0 (@List.take Value 2 [(Value.string x.1), (Value.string x.2)]))] q))))) ∧ True))))))))
def insEVC_wp (x : IP × Nat) : Prop := wpF Try.prog tblO tt noAn 200 6 111 (insEC.args x) (hO insEC.k (insEC.os x)) (fun v h' => endsP insEC.k x v h' insEC.outs)
def insEVC_1 (x : IP × Nat) (k : Nat) : Prop := ((@Bool.and (@Nat.beq (@List.length Value (@Cs.eff (fun (q : Nat) => (@cond (@List Value) (@Nat.blt q x.1.s.n) [(Value.string (@Shf.pk x.1.s q)), (Value.string (@Shf.pv x.1.s q))] (@List.nil Value))) (@List.nil (@Prod Nat (@List Value))) ((0 + x.1.i) + k))) 2) (@List.all Value (@Cs.eff (fun (q : Nat) => (@cond (@List Value) (@Nat.blt q x.1.s.n) [(Value.string (@Shf.pk x.1.s q)), (Value.string (@Shf.pv x.1.s q))] (@List.nil Value))) (@List.nil (@Prod Nat (@List Value))) ((0 + x.1.i) + k)) @Value.oneCell')) = Bool.true)
def insEVC_7 (x : IP × Nat) : Prop := ((x.1.key = x.1.key) ∧ ((x.1.value = x.1.value) ∧ True))
def insEVC_2 (x : IP × Nat) : Prop := (∃ (y : Unit), ((Hd ((x.1.s.n + 1) ≤ x.2)) ∧ (False ∧ (((x.2 = x.2) ∧ (∀ (q : Nat), ((q < x.2) → ((@Cs.eff (fun (q_1 : Nat) => (@cond (@List Value) (@Nat.blt q_1 (x.1.s.n + 1)) [(Value.string (@insF @ByteArray x.1.s.pk x.1.i x.1.key q_1)), (Value.string (@insF @ByteArray x.1.s.pv x.1.i x.1.value q_1))] (@List.nil Value))) (@List.nil (@Prod Nat (@List Value))) q) = (@Cs.eff (fun (q_1 : Nat) => (@cond (@List Value) (@Nat.blt q_1 x.1.s.n) [(Value.string (@Shf.pk x.1.s q_1)), (Value.string (@Shf.pv x.1.s q_1))] (@List.nil Value))) (@List.nil (@Prod Nat (@List Value))) q))))) ∧ ((insEVC_7 x) ∧ True)))))
def insEVC_3 (x : IP × Nat) : Prop := ((x.2 = x.2) ∧ (∀ (q : Nat), ((q < x.2) → ((@Cs.eff (fun (q_1 : Nat) => (@cond (@List Value) (@Nat.blt q_1 x.1.s.n) [(Value.string (@Shf.pk x.1.s q_1)), (Value.string (@Shf.pv x.1.s q_1))] (@List.nil Value))) (@List.nil (@Prod Nat (@List Value))) q) = (@Cs.eff (fun (q_1 : Nat) => (@cond (@List Value) (@Nat.blt q_1 x.1.s.n) [(Value.string (@Shf.pk x.1.s q_1)), (Value.string (@Shf.pv x.1.s q_1))] (@List.nil Value))) (@List.nil (@Prod Nat (@List Value))) q)))))
def insEVC_4 (x : IP × Nat) : Prop := ((@List.all (@List Value) [(@List.take Value 2 [(Value.string x.1.key), (Value.string x.1.value)])] (fun (l : (@List Value)) => (@Bool.and (@Nat.beq (@List.length Value l) 2) (@List.all Value l @Value.oneCell')))) = Bool.true)
def insEVC_5 (x : IP × Nat) : Prop := ((((x.1.i - 0) + (Int.toNat ((((x.1.s.n : Nat) : Int) + (1 : Int)) - ((x.1.i : Nat) : Int)))) ≤ ((x.1.i - 0) + (Int.toNat ((((x.1.s.n : Nat) : Int) + (1 : Int)) - ((x.1.i : Nat) : Int))))) ∧ (((x.1.i - 0) + (Int.toNat ((((x.1.s.n : Nat) : Int) + (1 : Int)) - ((x.1.i : Nat) : Int)))) ≤ ((x.1.i - 0) + (Int.toNat ((((x.1.s.n : Nat) : Int) + (1 : Int)) - ((x.1.i : Nat) : Int))))))
def insEVC_6 (x : IP × Nat) : Prop := ((((Int.toNat (((x.1.s.n : Nat) : Int) + (1 : Int))) - 0) ≤ (x.2 - 0)) ∧ ((x.2 - 0) ≤ (x.2 - 0)))
def insEVC_8 (x : IP × Nat) : Prop := ((x.1.s.n + 1) = ((x.1.i - 0) + (Int.toNat ((((x.1.s.n : Nat) : Int) + (1 : Int)) - ((x.1.i : Nat) : Int)))))
def insEVC_9 (x : IP × Nat) : Prop := ((x.1.i ≤ ((Int.toNat (((x.1.s.n : Nat) : Int) + (1 : Int))) - 0)) ∧ (insEVC_6 x))
def insEVC (x : IP × Nat) : Prop :=
  (((0 : Int) ≤ ((x.1.i : Nat) : Int)) ∧ (((x.1.i ≤ x.1.s.n) ∧ ((x.1.s.n ≤ x.2) ∧ (x.2 ≤ x.2))) ∧ (cP (BEq.beq ((x.1.i : Nat) : Int) ((x.1.s.n : Nat) : Int)) (((0 + x.1.s.n) ≤ x.2) ∧ (cP (@Nat.ble (x.1.s.n + 1) x.2) ((insEVC_4 x) ∧ (((0 + (x.1.s.n + 1)) ≤ x.2) ∧ ((∃ (y : Unit), ((Hd ((x.1.s.n + 1) ≤ x.2)) ∧ (((0 = 0) ∧ (((x.1.s.n + 1) = (x.1.s.n + 1)) ∧ (x.2 = x.2))) ∧ (((x.2 = x.2) ∧ (∀ (q : Nat), ((q < x.2) → ((@Cs.eff (fun (q_1 : Nat) => (@cond (@List Value) (@Nat.blt q_1 (x.1.s.n + 1)) [(Value.string (@insF @ByteArray x.1.s.pk x.1.i x.1.key q_1)), (Value.string (@insF @ByteArray x.1.s.pv x.1.i x.1.value q_1))] (@List.nil Value))) (@List.nil (@Prod Nat (@List Value))) q) = (@Cs.eff (fun (q_1 : Nat) => (@cond (@List Value) (@Nat.blt q_1 x.1.s.n) [(Value.string (@Shf.pk x.1.s q_1)), (Value.string (@Shf.pv x.1.s q_1))] (@List.nil Value))) [(@Prod.mk Nat (@List Value) (0 + x.1.s.n) (@List.take Value 2 [(Value.string x.1.key), (Value.string x.1.value)]))] q))))) ∧ ((insEVC_7 x) ∧ True))))) ∨ (∃ (y : Unit), (True ∧ (False ∧ (((x.2 = x.2) ∧ (∀ (q : Nat), ((q < x.2) → ((@Cs.eff (fun (q_1 : Nat) => (@cond (@List Value) (@Nat.blt q_1 x.1.s.n) [(Value.string (@Shf.pk x.1.s q_1)), (Value.string (@Shf.pv x.1.s q_1))] (@List.nil Value))) (@List.nil (@Prod Nat (@List Value))) q) = (@Cs.eff (fun (q_1 : Nat) => (@cond (@List Value) (@Nat.blt q_1 x.1.s.n) [(Value.string (@Shf.pk x.1.s q_1)), (Value.string (@Shf.pv x.1.s q_1))] (@List.nil Value))) [(@Prod.mk Nat (@List Value) (0 + x.1.s.n) (@List.take Value 2 [(Value.string x.1.key), (Value.string x.1.value)]))] q))))) ∧
 ((insEVC_7 x) ∧ (False ∧ True))))))))) (((((2 * (x.1.s.n + 1)) + 1000) * 32) ≤ 281474976710656) ∧ ((insEVC_2 x) ∨ (∃ (y : Unit), (True ∧ (((0 = 0) ∧ ((x.1.s.n + 1) = (x.1.s.n + 1))) ∧ ((insEVC_3 x) ∧ ((insEVC_7 x) ∧ ((((x.1.s.n + 1) = (x.1.s.n + (@List.length (@List Value) [(@List.take Value 2 [(Value.string x.1.key), (Value.string x.1.value)])]))) ∧ (∀ (q : Nat), ((q < (x.1.s.n + 1)) → ([(Value.string (@insF @BA x.1.s.pk x.1.i x.1.key q)), (Value.string (@insF @BA x.1.s.pv x.1.i x.1.value q))] = (@Cs.eff (fun (k : Nat) => (@Cs.eff (fun (q_1 : Nat) => (@cond (@List Value) (@Nat.blt q_1 x.1.s.n) [(Value.string (@Shf.pk x.1.s q_1)), (Value.string (@Shf.pv x.1.s q_1))] (@List.nil Value))) (@List.nil (@Prod Nat (@List Value))) (0 + k))) [(@Prod.mk Nat (@List Value) x.1.s.n (@List.take Value 2 [(Value.string x.1.key), (Value.string x.1.value)]))] q))))) ∧ True)))))))))) ((I64 (((x.1.s.n : Nat) : Int) + (1 : Int))) ∧ (cP (decide (@GT.gt Int @Int.instLTInt (((x.1.s.n : Nat) : Int) + (1 : Int)) ((x.2 : Nat) : Int))) (((0 : Int) ≤ ((x.1.i : Nat) : Int)) ∧ (((0 ≤ x.1.i) ∧ ((x.1.i ≤ x.2) ∧ (x.2 ≤ x.2))) ∧ ((I64 (((x.1.s.n : Nat) : Int) + (1 : Int))) ∧ ((I64 ((((x.1.s.n : Nat) : Int) + (1 : Int)) - ((x.1.i : Nat) : Int))) ∧ (((0 + (x.1.i - 0)) ≤ x.2) ∧ (((0 : Int) ≤ ((((x.1.s.n : Nat) : Int) + (1 : Int)) - ((x.1.i : Nat) : Int))) ∧ (((x.2 - 0) < ((x.1.i - 0) + (Int.toNat ((((x.1.s.n : Nat) : Int) + (1 : Int)) - ((x.1.i : Nat) : Int))))) ∧ (((((2 * ((x.1.i - 0) + (Int.toNat ((((x.1.s.n : Nat) : Int) + (1 : Int)) - ((x.1.i : Nat) : Int))))) + 1000) * 32) ≤ 281474976710656) ∧
 (((0 : Int) ≤ ((x.1.i : Nat) : Int)) ∧ (((x.1.i ≤ ((x.1.i - 0) + (Int.toNat ((((x.1.s.n : Nat) : Int) + (1 : Int)) - ((x.1.i : Nat) : Int))))) ∧ (insEVC_5 x)) ∧ ((((0 + x.1.i) + (((x.1.i - 0) + (Int.toNat ((((x.1.s.n : Nat) : Int) + (1 : Int)) - ((x.1.i : Nat) : Int)))) - x.1.i)) ≤ ((x.1.i - 0) + (Int.toNat ((((x.1.s.n : Nat) : Int) + (1 : Int)) - ((x.1.i : Nat) : Int))))) ∧ ((1 ≤ (((x.1.i - 0) + (Int.toNat ((((x.1.s.n : Nat) : Int) + (1 : Int)) - ((x.1.i : Nat) : Int)))) - x.1.i)) ∧ ((insEVC_4 x) ∧ ((I64 (((x.1.i : Nat) : Int) + (1 : Int))) ∧ (((0 : Int) ≤ (((x.1.i : Nat) : Int) + (1 : Int))) ∧ ((((Int.toNat (((x.1.i : Nat) : Int) + (1 : Int))) ≤ ((x.1.i - 0) + (Int.toNat ((((x.1.s.n : Nat) : Int) + (1 : Int)) - ((x.1.i : Nat) : Int))))) ∧ (insEVC_5 x)) ∧ (((0 : Int) ≤ ((x.1.i : Nat) : Int)) ∧ (((x.1.i ≤ x.1.s.n) ∧ ((x.1.s.n ≤ x.2) ∧ (x.2 ≤ x.2))) ∧ ((((0 + (Int.toNat (((x.1.i : Nat) : Int) + (1 : Int)))) + (((x.1.i - 0) + (Int.toNat ((((x.1.s.n : Nat) : Int) + (1 : Int)) - ((x.1.i : Nat) : Int)))) - (Int.toNat (((x.1.i : Nat) : Int) + (1 : Int))))) ≤ ((x.1.i - 0) + (Int.toNat ((((x.1.s.n : Nat) : Int) + (1 : Int)) - ((x.1.i : Nat) : Int))))) ∧ (cP (@Nat.ble (x.1.s.n - x.1.i) (((x.1.i - 0) + (Int.toNat ((((x.1.s.n : Nat) : Int) + (1 : Int)) - ((x.1.i : Nat) : Int)))) - (Int.toNat (((x.1.i : Nat) : Int) + (1 : Int))))) ((((0 + x.1.i) + (x.1.s.n - x.1.i)) ≤ x.2) ∧ ((∀ (k : Nat), ((k < (x.1.s.n - x.1.i)) → (insEVC_1 x k))) ∧ (True ∧ ((insEVC_2 x) ∨ (∃ (y : Unit), (True ∧ (((0 = 0) ∧
 (insEVC_8 x)) ∧ ((insEVC_3 x) ∧ ((insEVC_7 x) ∧ (((insEVC_8 x) ∧ (∀ (q : Nat), ((q < (x.1.s.n + 1)) → ([(Value.string (@insF @BA x.1.s.pk x.1.i x.1.key q)), (Value.string (@insF @BA x.1.s.pv x.1.i x.1.value q))] = (@Cs.eff (fun (p : Nat) => (@cond (@List Value) (@Bool.and (@Nat.ble (0 + (Int.toNat (((x.1.i : Nat) : Int) + (1 : Int)))) p) (@Nat.blt p ((0 + (Int.toNat (((x.1.i : Nat) : Int) + (1 : Int)))) + (x.1.s.n - x.1.i)))) (@Cs.eff (fun (q_1 : Nat) => (@cond (@List Value) (@Nat.blt q_1 x.1.s.n) [(Value.string (@Shf.pk x.1.s q_1)), (Value.string (@Shf.pv x.1.s q_1))] (@List.nil Value))) (@List.nil (@Prod Nat (@List Value))) ((0 + x.1.i) + (p - (0 + (Int.toNat (((x.1.i : Nat) : Int) + (1 : Int))))))) (@Cs.eff (fun (q_1 : Nat) => (@cond (@List Value) (@Nat.blt q_1 (x.1.i - 0)) (@Cs.eff (fun (k : Nat) => (@Cs.eff (fun (q_2 : Nat) => (@cond (@List Value) (@Nat.blt q_2 x.1.s.n) [(Value.string (@Shf.pk x.1.s q_2)), (Value.string (@Shf.pv x.1.s q_2))] (@List.nil Value))) (@List.nil (@Prod Nat (@List Value))) (0 + k))) (@List.nil (@Prod Nat (@List Value))) q_1) [(Value.string (@ByteArray.mk (@List.toArray UInt8 (@List.nil UInt8)))), (Value.string (@ByteArray.mk (@List.toArray UInt8 (@List.nil UInt8))))])) [(@Prod.mk Nat (@List Value) (0 + x.1.i) (@List.take Value 2 [(Value.string x.1.key), (Value.string x.1.value)]))] p))) (@List.nil (@Prod Nat (@List Value))) q))))) ∧ True)))))))))) ((((0 + x.1.i) + (((x.1.i - 0) + (Int.toNat ((((x.1.s.n : Nat) : Int) + (1 : Int)) - ((x.1.i : Nat) : Int)))) - (Int.toNat (((x.1.i : Nat) : Int) + (1 : Int))))) ≤ x.2) ∧
 ((∀ (k : Nat), ((k < (((x.1.i - 0) + (Int.toNat ((((x.1.s.n : Nat) : Int) + (1 : Int)) - ((x.1.i : Nat) : Int)))) - (Int.toNat (((x.1.i : Nat) : Int) + (1 : Int))))) → (insEVC_1 x k))) ∧ (True ∧ ((insEVC_2 x) ∨ (∃ (y : Unit), (True ∧ (((0 = 0) ∧ (insEVC_8 x)) ∧ ((insEVC_3 x) ∧ ((insEVC_7 x) ∧ (((insEVC_8 x) ∧ (∀ (q : Nat), ((q < (x.1.s.n + 1)) → ([(Value.string (@insF @BA x.1.s.pk x.1.i x.1.key q)), (Value.string (@insF @BA x.1.s.pv x.1.i x.1.value q))] = (@Cs.eff (fun (p : Nat) => (@cond (@List Value) (@Bool.and (@Nat.ble (0 + (Int.toNat (((x.1.i : Nat) : Int) + (1 : Int)))) p) (@Nat.blt p ((0 + (Int.toNat (((x.1.i : Nat) : Int) + (1 : Int)))) + (((x.1.i - 0) + (Int.toNat ((((x.1.s.n : Nat) : Int) + (1 : Int)) - ((x.1.i : Nat) : Int)))) - (Int.toNat (((x.1.i : Nat) : Int) + (1 : Int))))))) (@Cs.eff (fun (q_1 : Nat) => (@cond (@List Value) (@Nat.blt q_1 x.1.s.n) [(Value.string (@Shf.pk x.1.s q_1)), (Value.string (@Shf.pv x.1.s q_1))] (@List.nil Value))) (@List.nil (@Prod Nat (@List Value))) ((0 + x.1.i) + (p - (0 + (Int.toNat (((x.1.i : Nat) : Int) + (1 : Int))))))) (@Cs.eff (fun (q_1 : Nat) => (@cond (@List Value) (@Nat.blt q_1 (x.1.i - 0)) (@Cs.eff (fun (k : Nat) => (@Cs.eff (fun (q_2 : Nat) => (@cond (@List Value) (@Nat.blt q_2 x.1.s.n) [(Value.string (@Shf.pk x.1.s q_2)), (Value.string (@Shf.pv x.1.s q_2))] (@List.nil Value))) (@List.nil (@Prod Nat (@List Value))) (0 + k))) (@List.nil (@Prod Nat (@List Value))) q_1) [(Value.string (@ByteArray.mk (@List.toArray UInt8 (@List.nil UInt8)))), (Value.string (@ByteArray.mk (@List.toArray UInt8 (@List.nil UInt8))))])) [(@Prod.mk Nat (@List Value) (0 + x.1.i) (@List.take Value 2 [(Value.string x.1.key), (Value.string x.1.value)]))] p))) (@List.nil (@Prod Nat (@List Value))) q))))) ∧
 True)))))))))))))))))))))))))))))) ((I64 (((x.1.s.n : Nat) : Int) + (1 : Int))) ∧ (((0 : Int) ≤ (((x.1.s.n : Nat) : Int) + (1 : Int))) ∧ (((0 ≤ (Int.toNat (((x.1.s.n : Nat) : Int) + (1 : Int)))) ∧ (((Int.toNat (((x.1.s.n : Nat) : Int) + (1 : Int))) ≤ x.2) ∧ (x.2 ≤ x.2))) ∧ ((I64 (((x.1.i : Nat) : Int) + (1 : Int))) ∧ (((0 : Int) ≤ (((x.1.i : Nat) : Int) + (1 : Int))) ∧ ((((Int.toNat (((x.1.i : Nat) : Int) + (1 : Int))) ≤ ((Int.toNat (((x.1.s.n : Nat) : Int) + (1 : Int))) - 0)) ∧ (insEVC_6 x)) ∧ ((0 < (x.2 * 2)) ∧ ((I64 (((x.1.i : Nat) : Int) + (1 : Int))) ∧ (((0 : Int) ≤ (((x.1.i : Nat) : Int) + (1 : Int))) ∧ ((((Int.toNat (((x.1.i : Nat) : Int) + (1 : Int))) ≤ ((Int.toNat (((x.1.s.n : Nat) : Int) + (1 : Int))) - 0)) ∧ (insEVC_6 x)) ∧ (((0 : Int) ≤ ((x.1.i : Nat) : Int)) ∧ ((insEVC_9 x) ∧ ((((0 + (Int.toNat (((x.1.i : Nat) : Int) + (1 : Int)))) + (((Int.toNat (((x.1.s.n : Nat) : Int) + (1 : Int))) - 0) - (Int.toNat (((x.1.i : Nat) : Int) + (1 : Int))))) ≤ x.2) ∧ (cP (@Nat.ble (((Int.toNat (((x.1.s.n : Nat) : Int) + (1 : Int))) - 0) - x.1.i) (((Int.toNat (((x.1.s.n : Nat) : Int) + (1 : Int))) - 0) - (Int.toNat (((x.1.i : Nat) : Int) + (1 : Int))))) ((((0 + x.1.i) + (((Int.toNat (((x.1.s.n : Nat) : Int) + (1 : Int))) - 0) - x.1.i)) ≤ x.2) ∧ ((∀ (k : Nat), ((k < (((Int.toNat (((x.1.s.n : Nat) : Int) + (1 : Int))) - 0) - x.1.i)) → (insEVC_1 x k))) ∧ (True ∧ (((0 : Int) ≤ ((x.1.i : Nat) : Int)) ∧ ((insEVC_9 x) ∧ ((((0 + x.1.i) + (((Int.toNat (((x.1.s.n : Nat) : Int) + (1 : Int))) - 0) - x.1.i)) ≤ x.2) ∧
 ((1 ≤ (((Int.toNat (((x.1.s.n : Nat) : Int) + (1 : Int))) - 0) - x.1.i)) ∧ ((insEVC_4 x) ∧ ((∃ (y : Unit), ((Hd ((x.1.s.n + 1) ≤ x.2)) ∧ (((0 = 0) ∧ (((x.1.s.n + 1) = ((Int.toNat (((x.1.s.n : Nat) : Int) + (1 : Int))) - 0)) ∧ (x.2 = (x.2 - 0)))) ∧ (((x.2 = x.2) ∧ (∀ (q : Nat), ((q < x.2) → ((@Cs.eff (fun (q_1 : Nat) => (@cond (@List Value) (@Nat.blt q_1 (x.1.s.n + 1)) [(Value.string (@insF @ByteArray x.1.s.pk x.1.i x.1.key q_1)), (Value.string (@insF @ByteArray x.1.s.pv x.1.i x.1.value q_1))] (@List.nil Value))) (@List.nil (@Prod Nat (@List Value))) q) = (@Cs.eff (fun (p : Nat) => (@cond (@List Value) (@Bool.and (@Nat.ble (0 + (Int.toNat (((x.1.i : Nat) : Int) + (1 : Int)))) p) (@Nat.blt p ((0 + (Int.toNat (((x.1.i : Nat) : Int) + (1 : Int)))) + (((Int.toNat (((x.1.s.n : Nat) : Int) + (1 : Int))) - 0) - x.1.i)))) (@Cs.eff (fun (q_1 : Nat) => (@cond (@List Value) (@Nat.blt q_1 x.1.s.n) [(Value.string (@Shf.pk x.1.s q_1)), (Value.string (@Shf.pv x.1.s q_1))] (@List.nil Value))) (@List.nil (@Prod Nat (@List Value))) ((0 + x.1.i) + (p - (0 + (Int.toNat (((x.1.i : Nat) : Int) + (1 : Int))))))) (@Cs.eff (fun (q_1 : Nat) => (@cond (@List Value) (@Nat.blt q_1 x.1.s.n) [(Value.string (@Shf.pk x.1.s q_1)), (Value.string (@Shf.pv x.1.s q_1))] (@List.nil Value))) (@List.nil (@Prod Nat (@List Value))) p))) [(@Prod.mk Nat (@List Value) (0 + x.1.i) (@List.take Value 2 [(Value.string x.1.key), (Value.string x.1.value)]))] q))))) ∧ ((insEVC_7 x) ∧ True))))) ∨ (∃ (y : Unit), (True ∧ (False ∧ (((x.2 = x.2) ∧
 (∀ (q : Nat), ((q < x.2) → ((@Cs.eff (fun (q_1 : Nat) => (@cond (@List Value) (@Nat.blt q_1 x.1.s.n) [(Value.string (@Shf.pk x.1.s q_1)), (Value.string (@Shf.pv x.1.s q_1))] (@List.nil Value))) (@List.nil (@Prod Nat (@List Value))) q) = (@Cs.eff (fun (p : Nat) => (@cond (@List Value) (@Bool.and (@Nat.ble (0 + (Int.toNat (((x.1.i : Nat) : Int) + (1 : Int)))) p) (@Nat.blt p ((0 + (Int.toNat (((x.1.i : Nat) : Int) + (1 : Int)))) + (((Int.toNat (((x.1.s.n : Nat) : Int) + (1 : Int))) - 0) - x.1.i)))) (@Cs.eff (fun (q_1 : Nat) => (@cond (@List Value) (@Nat.blt q_1 x.1.s.n) [(Value.string (@Shf.pk x.1.s q_1)), (Value.string (@Shf.pv x.1.s q_1))] (@List.nil Value))) (@List.nil (@Prod Nat (@List Value))) ((0 + x.1.i) + (p - (0 + (Int.toNat (((x.1.i : Nat) : Int) + (1 : Int))))))) (@Cs.eff (fun (q_1 : Nat) => (@cond (@List Value) (@Nat.blt q_1 x.1.s.n) [(Value.string (@Shf.pk x.1.s q_1)), (Value.string (@Shf.pv x.1.s q_1))] (@List.nil Value))) (@List.nil (@Prod Nat (@List Value))) p))) [(@Prod.mk Nat (@List Value) (0 + x.1.i) (@List.take Value 2 [(Value.string x.1.key), (Value.string x.1.value)]))] q))))) ∧ ((insEVC_7 x) ∧ (False ∧ True))))))))))))))) ((((0 + x.1.i) + (((Int.toNat (((x.1.s.n : Nat) : Int) + (1 : Int))) - 0) - (Int.toNat (((x.1.i : Nat) : Int) + (1 : Int))))) ≤ x.2) ∧ ((∀ (k : Nat), ((k < (((Int.toNat (((x.1.s.n : Nat) : Int) + (1 : Int))) - 0) - (Int.toNat (((x.1.i : Nat) : Int) + (1 : Int))))) → (insEVC_1 x k))) ∧ (True ∧ (((0 : Int) ≤ ((x.1.i : Nat) : Int)) ∧ ((insEVC_9 x) ∧
 ((((0 + x.1.i) + (((Int.toNat (((x.1.s.n : Nat) : Int) + (1 : Int))) - 0) - x.1.i)) ≤ x.2) ∧ ((1 ≤ (((Int.toNat (((x.1.s.n : Nat) : Int) + (1 : Int))) - 0) - x.1.i)) ∧ ((insEVC_4 x) ∧ ((∃ (y : Unit), ((Hd ((x.1.s.n + 1) ≤ x.2)) ∧ (((0 = 0) ∧ (((x.1.s.n + 1) = ((Int.toNat (((x.1.s.n : Nat) : Int) + (1 : Int))) - 0)) ∧ (x.2 = (x.2 - 0)))) ∧ (((x.2 = x.2) ∧ (∀ (q : Nat), ((q < x.2) → ((@Cs.eff (fun (q_1 : Nat) => (@cond (@List Value) (@Nat.blt q_1 (x.1.s.n + 1)) [(Value.string (@insF @ByteArray x.1.s.pk x.1.i x.1.key q_1)), (Value.string (@insF @ByteArray x.1.s.pv x.1.i x.1.value q_1))] (@List.nil Value))) (@List.nil (@Prod Nat (@List Value))) q) = (@Cs.eff (fun (p : Nat) => (@cond (@List Value) (@Bool.and (@Nat.ble (0 + (Int.toNat (((x.1.i : Nat) : Int) + (1 : Int)))) p) (@Nat.blt p ((0 + (Int.toNat (((x.1.i : Nat) : Int) + (1 : Int)))) + (((Int.toNat (((x.1.s.n : Nat) : Int) + (1 : Int))) - 0) - (Int.toNat (((x.1.i : Nat) : Int) + (1 : Int))))))) (@Cs.eff (fun (q_1 : Nat) => (@cond (@List Value) (@Nat.blt q_1 x.1.s.n) [(Value.string (@Shf.pk x.1.s q_1)), (Value.string (@Shf.pv x.1.s q_1))] (@List.nil Value))) (@List.nil (@Prod Nat (@List Value))) ((0 + x.1.i) + (p - (0 + (Int.toNat (((x.1.i : Nat) : Int) + (1 : Int))))))) (@Cs.eff (fun (q_1 : Nat) => (@cond (@List Value) (@Nat.blt q_1 x.1.s.n) [(Value.string (@Shf.pk x.1.s q_1)), (Value.string (@Shf.pv x.1.s q_1))] (@List.nil Value))) (@List.nil (@Prod Nat (@List Value))) p))) [(@Prod.mk Nat (@List Value) (0 + x.1.i) (@List.take Value 2 [(Value.string x.1.key), (Value.string x.1.value)]))] q))))) ∧
 ((insEVC_7 x) ∧ True))))) ∨ (∃ (y : Unit), (True ∧ (False ∧ (((x.2 = x.2) ∧ (∀ (q : Nat), ((q < x.2) → ((@Cs.eff (fun (q_1 : Nat) => (@cond (@List Value) (@Nat.blt q_1 x.1.s.n) [(Value.string (@Shf.pk x.1.s q_1)), (Value.string (@Shf.pv x.1.s q_1))] (@List.nil Value))) (@List.nil (@Prod Nat (@List Value))) q) = (@Cs.eff (fun (p : Nat) => (@cond (@List Value) (@Bool.and (@Nat.ble (0 + (Int.toNat (((x.1.i : Nat) : Int) + (1 : Int)))) p) (@Nat.blt p ((0 + (Int.toNat (((x.1.i : Nat) : Int) + (1 : Int)))) + (((Int.toNat (((x.1.s.n : Nat) : Int) + (1 : Int))) - 0) - (Int.toNat (((x.1.i : Nat) : Int) + (1 : Int))))))) (@Cs.eff (fun (q_1 : Nat) => (@cond (@List Value) (@Nat.blt q_1 x.1.s.n) [(Value.string (@Shf.pk x.1.s q_1)), (Value.string (@Shf.pv x.1.s q_1))] (@List.nil Value))) (@List.nil (@Prod Nat (@List Value))) ((0 + x.1.i) + (p - (0 + (Int.toNat (((x.1.i : Nat) : Int) + (1 : Int))))))) (@Cs.eff (fun (q_1 : Nat) => (@cond (@List Value) (@Nat.blt q_1 x.1.s.n) [(Value.string (@Shf.pk x.1.s q_1)), (Value.string (@Shf.pv x.1.s q_1))] (@List.nil Value))) (@List.nil (@Prod Nat (@List Value))) p))) [(@Prod.mk Nat (@List Value) (0 + x.1.i) (@List.take Value 2 [(Value.string x.1.key), (Value.string x.1.value)]))] q))))) ∧ ((insEVC_7 x) ∧ (False ∧ True))))))))))))))))))))))))))))))))))
theorem insEVC_ok (x : IP × Nat) : insEVC x = insEVC_wp x := by kernel_rfl
def delEVC_wp (x : SK) : Prop := wpF Try.prog [] tt (anDel x) 200 6 112 (delEC.args x) (hO delEC.k (delEC.os x)) (fun v h' => endsP delEC.k x v h' delEC.outs)
def delEVC (x : SK) : Prop :=
  ((∃ (s : Nat), (((s ≤ x.s.n) ∧ (Hd (∀ (j : Nat), ((j < s) → ((eqB (@Shf.pk x.s j) x.key) = Bool.false))))) ∧ (True ∧ (((((s : Nat) : Int) = (0 : Int)) ∧ True) ∧ (((x.key = x.key) ∧ True) ∧ (((x.s.n = x.s.n) ∧ (∀ (q : Nat), ((q < x.s.n) → ([(Value.string (@Shf.pk x.s q)), (Value.string (@Shf.pv x.s q))] = [(Value.string (@Shf.pk x.s q)), (Value.string (@Shf.pv x.s q))])))) ∧ True)))))) ∧ ((∀ (s : Nat), (((s ≤ x.s.n) ∧ (Hd (∀ (j : Nat), ((j < s) → ((eqB (@Shf.pk x.s j) x.key) = Bool.false))))) → (cP (decide (((s : Nat) : Int) < ((x.s.n : Nat) : Int))) ((((0 : Int) ≤ ((s : Nat) : Int)) ∧ (((s : Nat) : Int) < ((x.s.n : Nat) : Int))) ∧ (((0 + s) < x.s.n) ∧ (cP (@BEq.beq (@List UInt8) (@List.instBEq UInt8 (@instBEqOfDecidableEq UInt8 @instDecidableEqUInt8)) (@ByteArray.toList (@Shf.pk x.s (0 + s))) (@ByteArray.toList x.key)) ((I64 (((s : Nat) : Int) + (1 : Int))) ∧ ((∃ (s_1 : (@Prod (@Prod Nat Nat) @Shf)), (((s_1.1.2 < s_1.1.1) ∧ ((s_1.1.1 ≤ x.s.n) ∧ (Hd (@delI x.s x.key s_1.2 s_1.1.2 s_1.1.1)))) ∧ (True ∧ (((((s_1.1.1 : Nat) : Int) = (((s : Nat) : Int) + (1 : Int))) ∧ ((((s_1.1.2 : Nat) : Int) = ((s : Nat) : Int)) ∧ True)) ∧ ((((@Shf.pk x.s (0 + s)) = (@Shf.pk x.s (0 + s))) ∧ (((@Shf.pv x.s (0 + s)) = (@Shf.pv x.s (0 + s))) ∧ True)) ∧ (((x.key = x.key) ∧ True) ∧ (((x.s.n = x.s.n) ∧ (∀ (q : Nat), ((q < x.s.n) → ([(Value.string (@Shf.pk s_1.2 q)), (Value.string (@Shf.pv s_1.2 q))] = [(Value.string (@Shf.pk x.s q)), (Value.string (@Shf.pv x.s q))])))) ∧ True))))))) ∧ ((∀ (s_1 : (@Prod (@Prod Nat Nat) @Shf)), (((s_1.1.2 < s_1.1.1) ∧
 ((s_1.1.1 ≤ x.s.n) ∧ (Hd (@delI x.s x.key s_1.2 s_1.1.2 s_1.1.1)))) → (cP (decide (((s_1.1.1 : Nat) : Int) < ((x.s.n : Nat) : Int))) ((((0 : Int) ≤ ((s_1.1.1 : Nat) : Int)) ∧ (((s_1.1.1 : Nat) : Int) < ((x.s.n : Nat) : Int))) ∧ (((0 + s_1.1.1) < x.s.n) ∧ (cP (@Bool.not (@BEq.beq (@List UInt8) (@List.instBEq UInt8 (@instBEqOfDecidableEq UInt8 @instDecidableEqUInt8)) (@ByteArray.toList (@Shf.pk s_1.2 (0 + s_1.1.1))) (@ByteArray.toList x.key))) ((((0 : Int) ≤ ((s_1.1.2 : Nat) : Int)) ∧ (((s_1.1.2 : Nat) : Int) < ((x.s.n : Nat) : Int))) ∧ (((0 + s_1.1.2) < x.s.n) ∧ ((I64 (((s_1.1.2 : Nat) : Int) + (1 : Int))) ∧ ((I64 (((s_1.1.1 : Nat) : Int) + (1 : Int))) ∧ (∃ (s_2 : (@Prod (@Prod Nat Nat) @Shf)), (((s_2.1.2 < s_2.1.1) ∧ ((s_2.1.1 ≤ x.s.n) ∧ (Hd (@delI x.s x.key s_2.2 s_2.1.2 s_2.1.1)))) ∧ (((x.s.n - s_2.1.1) < (x.s.n - s_1.1.1)) ∧ (((((s_2.1.1 : Nat) : Int) = (((s_1.1.1 : Nat) : Int) + (1 : Int))) ∧ ((((s_2.1.2 : Nat) : Int) = (((s_1.1.2 : Nat) : Int) + (1 : Int))) ∧ True)) ∧ ((((@Shf.pk x.s (0 + s)) = (@Shf.pk x.s (0 + s))) ∧ (((@Shf.pv x.s (0 + s)) = (@Shf.pv x.s (0 + s))) ∧ True)) ∧ (((x.key = x.key) ∧ True) ∧ (((x.s.n = x.s.n) ∧ (∀ (q : Nat), ((q < x.s.n) → ([(Value.string (@Shf.pk s_2.2 q)), (Value.string (@Shf.pv s_2.2 q))] = (@Cs.eff (fun (q_1 : Nat) => [(Value.string (@Shf.pk s_1.2 q_1)), (Value.string (@Shf.pv s_1.2 q_1))]) [(@Prod.mk Nat (@List Value) (0 + s_1.1.2) [(Value.string (@Shf.pk s_1.2 (0 + s_1.1.1))), (Value.string (@Shf.pv s_1.2 (0 + s_1.1.1)))])] q))))) ∧ True))))))))))) ((I64 (((s_1.1.1 : Nat) : Int) + (1 : Int))) ∧
 (∃ (s_2 : (@Prod (@Prod Nat Nat) @Shf)), (((s_2.1.2 < s_2.1.1) ∧ ((s_2.1.1 ≤ x.s.n) ∧ (Hd (@delI x.s x.key s_2.2 s_2.1.2 s_2.1.1)))) ∧ (((x.s.n - s_2.1.1) < (x.s.n - s_1.1.1)) ∧ (((((s_2.1.1 : Nat) : Int) = (((s_1.1.1 : Nat) : Int) + (1 : Int))) ∧ ((((s_2.1.2 : Nat) : Int) = ((s_1.1.2 : Nat) : Int)) ∧ True)) ∧ ((((@Shf.pk x.s (0 + s)) = (@Shf.pk x.s (0 + s))) ∧ (((@Shf.pv x.s (0 + s)) = (@Shf.pv x.s (0 + s))) ∧ True)) ∧ (((x.key = x.key) ∧ True) ∧ (((x.s.n = x.s.n) ∧ (∀ (q : Nat), ((q < x.s.n) → ([(Value.string (@Shf.pk s_2.2 q)), (Value.string (@Shf.pv s_2.2 q))] = [(Value.string (@Shf.pk s_1.2 q)), (Value.string (@Shf.pv s_1.2 q))])))) ∧ True))))))))))) (((0 : Int) ≤ ((s_1.1.2 : Nat) : Int)) ∧ (((s_1.1.2 ≤ x.s.n) ∧ ((x.s.n ≤ x.s.n) ∧ (x.s.n ≤ x.s.n))) ∧ ((((0 + s_1.1.2) + (x.s.n - s_1.1.2)) ≤ x.s.n) ∧ (((0 : Int) ≤ ((s_1.1.2 : Nat) : Int)) ∧ (((0 ≤ s_1.1.2) ∧ ((s_1.1.2 ≤ x.s.n) ∧ (x.s.n ≤ x.s.n))) ∧ ((∃ (y : Unit), ((Hd ((@hadM x.s x.key) = Bool.false)) ∧ (((0 = 0) ∧ (x.s.n = (s_1.1.2 - 0))) ∧ (((x.s.n = x.s.n) ∧ (∀ (q : Nat), ((q < x.s.n) → ([(Value.string (@Shf.pk x.s q)), (Value.string (@Shf.pv x.s q))] = (@Cs.eff (fun (p : Nat) => (@cond (@List Value) (@Bool.and (@Nat.ble (0 + s_1.1.2) p) (@Nat.blt p ((0 + s_1.1.2) + (x.s.n - s_1.1.2)))) [(Value.string (@ByteArray.mk (@List.toArray UInt8 (@List.nil UInt8)))), (Value.string (@ByteArray.mk (@List.toArray UInt8 (@List.nil UInt8))))] [(Value.string (@Shf.pk s_1.2 p)), (Value.string (@Shf.pv s_1.2 p))])) (@List.nil (@Prod Nat (@List Value))) q))))) ∧
 (((x.key = x.key) ∧ True) ∧ True))))) ∨ (∃ (y : @Shf), ((Hd (@dropR x.s x.key y)) ∧ (((0 = 0) ∧ (y.n = (s_1.1.2 - 0))) ∧ (((x.s.n = x.s.n) ∧ (∀ (q : Nat), ((q < x.s.n) → ((@Cs.eff (fun (q_1 : Nat) => (@cond (@List Value) (@Nat.blt q_1 y.n) [(Value.string (@Shf.pk y q_1)), (Value.string (@Shf.pv y q_1))] [(Value.string es), (Value.string es)])) (@List.nil (@Prod Nat (@List Value))) q) = (@Cs.eff (fun (p : Nat) => (@cond (@List Value) (@Bool.and (@Nat.ble (0 + s_1.1.2) p) (@Nat.blt p ((0 + s_1.1.2) + (x.s.n - s_1.1.2)))) [(Value.string (@ByteArray.mk (@List.toArray UInt8 (@List.nil UInt8)))), (Value.string (@ByteArray.mk (@List.toArray UInt8 (@List.nil UInt8))))] [(Value.string (@Shf.pk s_1.2 p)), (Value.string (@Shf.pv s_1.2 p))])) (@List.nil (@Prod Nat (@List Value))) q))))) ∧ (((x.key = x.key) ∧ True) ∧ True)))))))))))))) ∧ True))) ((I64 (((s : Nat) : Int) + (1 : Int))) ∧ (∃ (s_1 : Nat), (((s_1 ≤ x.s.n) ∧ (Hd (∀ (j : Nat), ((j < s_1) → ((eqB (@Shf.pk x.s j) x.key) = Bool.false))))) ∧ (((x.s.n - s_1) < (x.s.n - s)) ∧ (((((s_1 : Nat) : Int) = (((s : Nat) : Int) + (1 : Int))) ∧ True) ∧ (((x.key = x.key) ∧ True) ∧ (((x.s.n = x.s.n) ∧ (∀ (q : Nat), ((q < x.s.n) → ([(Value.string (@Shf.pk x.s q)), (Value.string (@Shf.pv x.s q))] = [(Value.string (@Shf.pk x.s q)), (Value.string (@Shf.pv x.s q))])))) ∧ True)))))))))) ((∃ (y : Unit), ((Hd ((@hadM x.s x.key) = Bool.false)) ∧ (((0 = 0) ∧ (x.s.n = x.s.n)) ∧ (((x.s.n = x.s.n) ∧ (∀ (q : Nat), ((q < x.s.n) → ([(Value.string (@Shf.pk x.s q)), (Value.string (@Shf.pv x.s q))] = [(Value.string (@Shf.pk x.s q)), (Value.string (@Shf.pv x.s q))])))) ∧
 (((x.key = x.key) ∧ True) ∧ True))))) ∨ (∃ (y : @Shf), ((Hd (@dropR x.s x.key y)) ∧ (((0 = 0) ∧ (y.n = x.s.n)) ∧ (((x.s.n = x.s.n) ∧ (∀ (q : Nat), ((q < x.s.n) → ((@Cs.eff (fun (q_1 : Nat) => (@cond (@List Value) (@Nat.blt q_1 y.n) [(Value.string (@Shf.pk y q_1)), (Value.string (@Shf.pv y q_1))] [(Value.string es), (Value.string es)])) (@List.nil (@Prod Nat (@List Value))) q) = [(Value.string (@Shf.pk x.s q)), (Value.string (@Shf.pv x.s q))])))) ∧ (((x.key = x.key) ∧ True) ∧ True))))))))) ∧ True))
theorem delEVC_ok (x : SK) : delEVC x = delEVC_wp x := by kernel_rfl
def delNVC_wp (x : BA) : Prop := wpF Try.prog [] tt noAn 200 6 112 (delNC.args x) (hO delNC.k (delNC.os x)) (fun v h' => endsP delNC.k x v h' delNC.outs)
def delNVC (x : BA) : Prop :=
  (∃ (y : Unit), (True ∧ (((Value.slice none 0 0) = (Value.slice none 0 0)) ∧ (((x = x) ∧ True) ∧ True))))
end Go.Proofs.Ytjndgegfonhhfaa
end
section
/- A store in work: pairs laid in, and taken out: what is asked is so. -/
namespace Go.Proofs.Ytjndgegfonhhfaa
open Go SE
theorem two_ones (a b : BA) : (@List.all (List Value) [List.take 2 [Value.string a, Value.string b]] (fun l => Nat.beq l.length 2 && List.all l Value.oneCell')) = true := rfl
theorem blt_f {a b : Nat} (h : ¬ a < b) : Nat.blt a b = false := by
  cases hb : Nat.blt a b
  · rfl
  · exact absurd (nblt_iff.1 hb) h
theorem insF_lt {α : Type} {f : Nat → α} {i q : Nat} {x : α} (h : q < i) : insF f i x q = f q := by unfold insF; rw [nblt_iff.2 h]; rfl
theorem insF_eq {α : Type} {f : Nat → α} {i : Nat} {x : α} : insF f i x i = x := by unfold insF; rw [blt_f (Nat.lt_irrefl i)]; simp
theorem insF_gt {α : Type} {f : Nat → α} {i q : Nat} {x : α} (h : i < q) : insF f i x q = f (q - 1) := by unfold insF; rw [blt_f (by omega), nbeq_ne (by omega)]; rfl
theorem insEVC_true (x : IP × Nat) (hx : x.1.i ≤ x.1.s.n ∧ x.1.s.n ≤ x.2 ∧ x.1.s.n ≤ 100) : insEVC x := by
  obtain ⟨⟨s, i, key, value⟩, c⟩ := x
  obtain ⟨h1, h2, h3⟩ := hx
  dsimp only at h1 h2 h3
  unfold insEVC
  simp only [insEVC_1, insEVC_7, insEVC_2, insEVC_3, insEVC_4, insEVC_5, insEVC_6, insEVC_8, insEVC_9]
  have e1 : (((s.n : Nat) : Int) + 1 - (i : Int)).toNat = s.n + 1 - i := by omega
  have e2 : ((i : Int) + 1).toNat = i + 1 := by omega
  have e3 : ((s.n : Int) + 1).toNat = s.n + 1 := by omega
  have e4 : i + (s.n + 1 - i) = s.n + 1 := by omega
  simp only [hd_iff, and_true, true_and, Nat.zero_add, Nat.add_zero, unit_ex, unit_all, true_implies, implies_true, Int.toNat_natCast, eq_self, and_self, Nat.sub_zero, e1, e2, e3, e4, two_ones]
  have hb : ∀ a b : Nat, a ≤ b → Nat.ble a b = true := fun a b h => by simpa using h
  simp only [Cs.eff]
  refine ⟨by omega, ⟨by omega, by omega, by omega⟩, cP_intro (fun hi => ?_) (fun hi => ?_)⟩
  · have hi : i = s.n := by have := eq_of_beq hi; omega
    subst hi
    have row : ∀ q, q < s.n + 1 → [Value.string (insF s.pk s.n key q), Value.string (insF s.pv s.n value q)] = (bif Nat.beq q s.n then List.take 2 [Value.string key, Value.string value] else (bif Nat.blt q s.n then [Value.string (s.pk q), Value.string (s.pv q)] else [])) := fun q hq => by
      by_cases h : q = s.n
      · subst h; simp [insF_eq]
      · rw [nbeq_ne h, nblt_iff.2 (show q < s.n by omega), insF_lt (by omega), insF_lt (by omega)]; rfl
    refine ⟨by omega, cP_intro (fun hc => ?_) (fun hc => ?_)⟩
    · have hc : s.n + 1 ≤ c := by simpa using hc
      refine ⟨by omega, .inl ⟨hc, fun q hq => ?_⟩⟩
      by_cases h : q < s.n + 1
      · rw [nblt_iff.2 h, cond_true]; exact row q h
      · rw [blt_f h, blt_f (show ¬ q < s.n by omega), nbeq_ne (by omega)]; rfl
    · exact ⟨by omega, .inr ⟨by simp, fun q hq => row q hq⟩⟩
  · have hi : i < s.n := by
      rcases Nat.lt_or_ge i s.n with h | h
      · exact h
      · have : i = s.n := by omega
        subst this; simp at hi
    have old : ∀ k, k < s.n - i → (Nat.beq (bif Nat.blt (i + k) s.n then [Value.string (s.pk (i + k)), Value.string (s.pv (i + k))] else []).length 2 && (bif Nat.blt (i + k) s.n then [Value.string (s.pk (i + k)), Value.string (s.pv (i + k))] else []).all Value.oneCell') = true := fun k hk => by
      rw [nblt_iff.2 (show i + k < s.n by omega)]; rfl
    refine ⟨by unfold I64; omega, cP_intro (fun hc => ?_) (fun hc => ?_)⟩
    · have hc := of_decide_eq_true hc
      refine ⟨by omega, ⟨by omega, by omega, by omega⟩, by unfold I64; omega, by unfold I64; omega, by omega, by omega, by omega, by omega, by omega, ⟨by omega, by omega⟩, by omega, by omega, by unfold I64; omega, by omega, ⟨by omega, by omega⟩, by omega, ⟨by omega, by omega, by omega⟩, by omega, ?_⟩
      have fin : ∀ N, N = s.n - i → ∀ q, q < s.n + 1 → [Value.string (insF s.pk i key q), Value.string (insF s.pv i value q)] = (bif Nat.ble (i + 1) q && Nat.blt q (i + 1 + N) then (bif Nat.blt (i + (q - (i + 1))) s.n then [Value.string (s.pk (i + (q - (i + 1)))), Value.string (s.pv (i + (q - (i + 1))))] else []) else (bif Nat.beq q i then List.take 2 [Value.string key, Value.string value] else (bif Nat.blt q i then (bif Nat.blt q s.n then [Value.string (s.pk q), Value.string (s.pv q)] else []) else [Value.string { data := #[] }, Value.string { data := #[] }]))) := by
        rintro N rfl q hq
        by_cases h1 : q < i
        · have b1 : Nat.ble (i + 1) q = false := by cases h : Nat.ble (i + 1) q; · rfl
                                                    · have := Nat.le_of_ble_eq_true h; omega
          rw [b1, nbeq_ne (show q ≠ i by omega), nblt_iff.2 h1, nblt_iff.2 (show q < s.n by omega), insF_lt h1, insF_lt h1]; rfl
        · by_cases h2 : q = i
          · subst h2
            have b1 : Nat.ble (q + 1) q = false := by cases h : Nat.ble (q + 1) q; · rfl
                                                      · have := Nat.le_of_ble_eq_true h; omega
            rw [b1, insF_eq, insF_eq]; simp
          · have b1 : Nat.ble (i + 1) q = true := Nat.ble_eq_true_of_le (by omega)
            rw [b1, nblt_iff.2 (show q < i + 1 + (s.n - i) by omega), nblt_iff.2 (show i + (q - (i + 1)) < s.n by omega), insF_gt (by omega), insF_gt (by omega), show i + (q - (i + 1)) = q - 1 by omega]; rfl
      refine cP_intro (fun hb2 => ⟨by omega, old, .inr (fun q hq => fin _ rfl q hq)⟩) (fun hb2 => ?_)
      exact absurd (Nat.ble_eq_true_of_le (show s.n - i ≤ s.n + 1 - (i + 1) by omega)) (by rw [hb2]; decide)
    · have hc := of_decide_eq_false hc
      have en : s.n + 1 - (i + 1) = s.n - i := by omega
      rw [en]
      refine ⟨by unfold I64; omega, by omega, ⟨by omega, by omega, by omega⟩, by unfold I64; omega, by omega, ⟨by omega, by omega, by omega⟩, by omega, by unfold I64; omega, by omega, ⟨by omega, by omega, by omega⟩, by omega, ⟨by omega, by omega, by omega⟩, by omega, cP_intro (fun hb2 => ?_) (fun _ => ⟨by omega, old, by omega, ⟨by omega, by omega, by omega⟩, by omega, by omega, .inl ⟨by omega, fun q hq => ?_⟩⟩)⟩
      · have := Nat.le_of_ble_eq_true hb2; omega
      · by_cases h0 : q < s.n + 1
        · rw [nblt_iff.2 h0, cond_true]
          by_cases h1 : q < i
          · have b1 : Nat.ble (i + 1) q = false := by cases h : Nat.ble (i + 1) q; · rfl
                                                      · have := Nat.le_of_ble_eq_true h; omega
            rw [b1, nbeq_ne (show q ≠ i by omega), nblt_iff.2 (show q < s.n by omega), insF_lt h1, insF_lt h1]; rfl
          · by_cases h2 : q = i
            · subst h2
              rw [insF_eq, insF_eq]; simp
            · have b1 : Nat.ble (i + 1) q = true := Nat.ble_eq_true_of_le (by omega)
              rw [nbeq_ne h2, b1, nblt_iff.2 (show q < i + 1 + (s.n - i) by omega), nblt_iff.2 (show i + (q - (i + 1)) < s.n by omega), insF_gt (by omega), insF_gt (by omega), show i + (q - (i + 1)) = q - 1 by omega]; rfl
        · rw [blt_f h0, nbeq_ne (show q ≠ i by omega), blt_f (show ¬ q < i + 1 + (s.n - i) by omega), blt_f (show ¬ q < s.n by omega)]; simp
theorem insE_ok : CtrOk Try.prog 111 insEC := ctr_endL tt_ok mixed tblO_ok (C := insEC) (fun _ => noAn) 200 6 (fun _ => rfl) (fun _ => ⟨fun _ => rfl, fun _ => rfl, trivial⟩) fun x hx => Eq.mp (insEVC_ok x) (insEVC_true x (hd_iff.1 hx))
theorem insRow_eq (x : IP) (c : Nat) : ∀ q, q < x.s.n + 1 → (bif Nat.blt q (x.s.n + 1) then [Value.string (insF x.s.pk x.i x.key q), Value.string (insF x.s.pv x.i x.value q)] else []) = [Value.string (insF x.s.pk x.i x.key q), Value.string (insF x.s.pv x.i x.value q)] := fun q hq => by rw [nblt_iff.2 hq]; rfl
theorem ins_ok : CtrOk Try.prog 111 insC := fun x hx => ⟨rfl, by
  have hx := hd_iff.1 hx
  refine sp_leq (sp_roomy0 (k := 2) (e := 73) (g := fun k => [.string (x.s.pk k), .string (x.s.pv k)]) (wr := []) (os := [pairO x.key x.value]) rfl fun c hc => ?_)
  refine ((insE_ok (x, c) (hd_iff.2 ⟨hx.1, hc, hx.2⟩)).2).mono fun v h' hh => ?_
  refine ⟨.slW 2 0 2 (x.s.n + 1), hO 3 [.abs topS, pairO x.key x.value, roomP (insS x.s x.i x.key x.value)], ?_, by with_unfolding_all exact Or.inl ⟨(), trivial, rfl, rfl⟩⟩
  have hh : (∃ y : Unit, Hd (x.s.n + 1 ≤ c) ∧ v = .slE 0 0 2 (x.s.n + 1) c ∧ h' = hO 2 [.room 73 (insRow x c), pairO x.key x.value]) ∨ (∃ y : Unit, True ∧ v = .slW 2 0 2 (x.s.n + 1) ∧ h' = hO 3 [.room 73 (openRow x.s c), pairO x.key x.value, roomP (insS x.s x.i x.key x.value)]) ∨ False := by
    with_unfolding_all exact hh
  rcases hh with ⟨_, h1, rfl, rfl⟩ | ⟨_, _, rfl, rfl⟩ | hh
  · refine (leq_swapE (k := 2) (rest := [pairO x.key x.value]) rfl (hd_iff.1 h1)).trans ?_
    refine leq_objs (m := 3) rfl rfl (by decide) fun i o o' hi hi' => ?_
    match i, hi, hi' with
    | 0, hi, hi' => cases hi; cases hi'; exact fun _ _ _ _ _ h => h
    | 1, hi, hi' => cases hi; cases hi'; exact fun _ _ _ _ _ h => h
    | 2, hi, hi' => cases hi; cases hi'; exact room_same (insRow_eq x c)
  · exact leq_top0 (m := 3) rfl (show (2 : Nat) ≤ 3 by decide)
  · exact hh.elim⟩

/-! ### Out of it -/
theorem eqB_iff {a b : BA} : eqB a b = true ↔ a = b := by
  unfold eqB
  rw [beq_iff_eq, toList_data, toList_data]
  exact ⟨fun h => by cases a; cases b; simp at h; simp [h], fun h => by rw [h]⟩
theorem firstM_hit {p : Nat → Bool} {n : Nat} : ∀ (f i : Nat), firstM p n f i < n → i + f = n → p (firstM p n f i) = true
  | 0, i, h, _ => by simp [firstM] at h
  | f + 1, i, h, he => by
    simp only [firstM] at h ⊢
    cases hp : p i with
    | true => simp [hp]
    | false => rw [hp] at h; simp only [cond_false] at h ⊢; exact firstM_hit (n := n) f (i + 1) h (by omega)
theorem firstM_miss {p : Nat → Bool} {n : Nat} : ∀ (f i : Nat), i + f = n → firstM p n f i ≤ n ∧ ∀ q, i ≤ q → q < firstM p n f i → p q = false
  | 0, i, h => by simp only [firstM]; exact ⟨Nat.le_refl _, fun q h1 h2 => by omega⟩
  | f + 1, i, h => by
    simp only [firstM]
    cases hp : p i with
    | true => simp only [cond_true]; exact ⟨by omega, fun q h1 h2 => by omega⟩
    | false =>
      simp only [cond_false]
      obtain ⟨g1, g2⟩ := firstM_miss (p := p) (n := n) f (i + 1) (by omega)
      refine ⟨g1, fun q h1 h2 => ?_⟩
      by_cases hq : q = i
      · subst hq; exact hp
      · exact g2 q (by omega) h2
theorem hadM_iff (s : Shf) (k : BA) : hadM s k = true ↔ ∃ q, q < s.n ∧ eqB (s.pk q) k = true := by
  unfold hadM placeM
  constructor
  · intro h
    have h := of_decide_eq_true h
    exact ⟨_, h, firstM_hit (p := fun i => eqB (s.pk i) k) s.n 0 h (by omega)⟩
  · rintro ⟨q, h1, h2⟩
    refine decide_eq_true ?_
    obtain ⟨g1, g2⟩ := firstM_miss (p := fun i => eqB (s.pk i) k) (n := s.n) s.n 0 (by omega)
    rcases Nat.lt_or_ge (firstM (fun i => eqB (s.pk i) k) s.n s.n 0) s.n with h | h
    · exact h
    · have := g2 q (Nat.zero_le _) (by omega)
      rw [this] at h2; cases h2
theorem hadM_congr {s y : Shf} {k : BA} (h : (∃ q, q < s.n ∧ eqB (s.pk q) k = true) ↔ ∃ q, q < y.n ∧ eqB (y.pk q) k = true) : hadM y k = hadM s k := by
  rw [Bool.eq_iff_iff, hadM_iff, hadM_iff]; exact h.symm
theorem hadM_not {s : Shf} {k : BA} (h : ∀ q, q < s.n → eqB (s.pk q) k = false) : hadM s k = false := by
  cases hb : hadM s k
  · rfl
  · obtain ⟨q, h1, h2⟩ := (hadM_iff s k).1 hb
    rw [h q h1] at h2; cases h2
theorem eqB_ff {a b k : BA} (h1 : eqB a b = true) (h2 : eqB k b = false) : eqB a k = false := by
  cases h : eqB a k
  · rfl
  · have := eqB_iff.1 h; subst this; rw [h1] at h2; cases h2
theorem delEVC_true (x : SK) (hx : x.s.n ≤ 100 ∧ ∀ k, k < x.s.n → (x.s.pk k).size ≤ 1500) : delEVC x := by
  obtain ⟨s, key⟩ := x
  obtain ⟨h1, h2⟩ := hx
  dsimp only at h1 h2
  unfold delEVC
  simp only [hd_iff, and_true, true_and, Nat.zero_add, Nat.add_zero, unit_ex, unit_all, true_implies, implies_true, Int.toNat_natCast, eq_self, and_self, Nat.sub_zero, eL, Cs.eff]
  refine ⟨⟨0, ⟨by omega, fun j hj => by omega⟩, rfl⟩, fun i ⟨hi, hno⟩ => cP_intro (fun hlt => ?_) (fun hlt => ?_)⟩
  · have hlt := of_decide_eq_true hlt
    refine ⟨⟨by omega, hlt⟩, by omega, cP_intro (fun hit => ?_) (fun hit => ?_)⟩
    · refine ⟨by unfold I64; omega, ⟨((i + 1, i), s), ⟨by dsimp only; omega, by dsimp only; omega, ?_⟩, ⟨by dsimp only; omega, rfl⟩, fun q _ => rfl⟩, fun p ⟨g1, g2, g3⟩ => ?_⟩
      · refine ⟨fun q _ _ => ⟨rfl, rfl⟩, fun k' hk' => ⟨fun ⟨q, q1, q2⟩ => ⟨q, by dsimp only at q1 ⊢; omega, q2⟩, fun ⟨q, q1, q2⟩ => ?_⟩, i, by dsimp only; omega, hit⟩
        dsimp only at q1
        refine ⟨q, ?_, q2⟩
        dsimp only
        by_cases hq : q = i
        · subst hq
          rw [eqB_ff hit hk'] at q2; cases q2
        · omega
      · obtain ⟨⟨j, m⟩, c⟩ := p
        dsimp only at g1 g2 g3 ⊢
        obtain ⟨d1, d2, d3⟩ := g3
        refine cP_intro (fun hj => ?_) (fun hj => ?_)
        · have hj := of_decide_eq_true hj
          have hjn : j < s.n := by omega
          obtain ⟨e1, e2⟩ := d1 j (Nat.le_refl _) hjn
          refine ⟨⟨by omega, hj⟩, hjn, cP_intro (fun hd => ?_) (fun hd => ?_)⟩
          · simp only [Bool.not_eq_true'] at hd
            refine ⟨⟨by omega, by omega⟩, by omega, by unfold I64; omega, by unfold I64; omega, ((j + 1, m + 1), { c with pk := fun q => bif Nat.beq q m then c.pk j else c.pk q, pv := fun q => bif Nat.beq q m then c.pv j else c.pv q }), ⟨by dsimp only; omega, by dsimp only; omega, ?_⟩, by dsimp only; omega, ⟨by dsimp only; omega, by dsimp only; omega⟩, fun q hq => ?_⟩
            · dsimp only
              refine ⟨fun q q1 q2 => ?_, fun k' hk' => ?_, ?_⟩
              · dsimp only
                rw [nbeq_ne (show q ≠ m by omega)]
                exact d1 q (by omega) q2
              · dsimp only
                constructor
                · rintro ⟨q, q1, q2⟩
                  by_cases hq : q = m
                  · subst hq
                    simp only [Nat.beq_refl, cond_true] at q2
                    exact ⟨j, by omega, by rw [← e1]; exact q2⟩
                  · rw [nbeq_ne hq] at q2
                    obtain ⟨r, r1, r2⟩ := (d2 k' hk').1 ⟨q, by omega, q2⟩
                    exact ⟨r, by omega, r2⟩
                · rintro ⟨q, q1, q2⟩
                  by_cases hq : q = j
                  · subst hq
                    exact ⟨m, by omega, by simp only [Nat.beq_refl, cond_true]; rw [e1]; exact q2⟩
                  · obtain ⟨r, r1, r2⟩ := (d2 k' hk').2 ⟨q, by omega, q2⟩
                    exact ⟨r, by omega, by rw [nbeq_ne (show r ≠ m by omega)]; exact r2⟩
              · obtain ⟨q, q1, q2⟩ := d3
                exact ⟨q, by omega, q2⟩
            · dsimp only
              cases Nat.beq q m <;> rfl
          · simp only [Bool.not_eq_false'] at hd
            refine ⟨by unfold I64; omega, ((j + 1, m), c), ⟨by dsimp only; omega, by dsimp only; omega, fun q q1 q2 => d1 q (by dsimp only at q1; omega) q2, fun k' hk' => ?_, ?_⟩, by dsimp only; omega, ⟨by dsimp only; omega, rfl⟩, fun q _ => rfl⟩
            · dsimp only
              rw [d2 k' hk']
              constructor
              · rintro ⟨q, q1, q2⟩; exact ⟨q, by omega, q2⟩
              · rintro ⟨q, q1, q2⟩
                by_cases hq : q = j
                · subst hq
                  rw [e1] at hd
                  rw [eqB_ff hd hk'] at q2; cases q2
                · exact ⟨q, by omega, q2⟩
            · obtain ⟨q, q1, q2⟩ := d3
              exact ⟨q, by dsimp only; omega, q2⟩
        · have hj : j = s.n := by have := of_decide_eq_false hj; omega
          subst hj
          refine ⟨by omega, ⟨by omega, by omega⟩, by omega, by omega, ⟨by omega, by omega, by omega⟩, .inr ⟨{ c with n := m }, ⟨g1, ?_, fun k' hk' => hadM_congr (d2 k' hk').symm⟩, rfl, fun q hq => ?_⟩⟩
          · exact (hadM_iff s key).2 d3
          · dsimp only
            by_cases hq2 : q < m
            · have b1 : Nat.ble m q = false := by cases h : Nat.ble m q; · rfl
                                                  · have := Nat.le_of_ble_eq_true h; omega
              rw [nblt_iff.2 hq2, b1]; rfl
            · rw [blt_f hq2, Nat.ble_eq_true_of_le (show m ≤ q by omega), nblt_iff.2 (show q < m + (s.n - m) by omega)]; rfl
    · exact ⟨by unfold I64; omega, i + 1, ⟨by omega, fun j hj => by
        by_cases h : j = i
        · subst h; exact hit
        · exact hno j (by omega)⟩, by omega, by omega⟩
  · have : i = s.n := by have := of_decide_eq_false hlt; omega
    subst this
    exact .inl (hadM_not hno)
theorem delE_ok : CtrOk Try.prog 112 delEC := ctr_endL tt_ok mixed .nil (C := delEC) anDel 200 6 (fun _ => rfl) (fun _ => ⟨fun _ => rfl, fun _ => rfl, trivial⟩) fun x hx => Eq.mp (delEVC_ok x) (delEVC_true x (hd_iff.1 hx))
theorem delP_ok : CtrOk Try.prog 112 delPC := fun x hx => ⟨rfl, by
  refine sp_leq ((delE_ok x hx).2.mono fun v h' hh => ?_)
  have hh : (∃ y : Unit, Hd (hadM x.s x.key = false) ∧ v = .slW 0 0 2 x.s.n ∧ h' = hO 2 [roomP x.s, keyO x.key]) ∨ (∃ y : Shf, Hd (dropR x.s x.key y) ∧ v = .slW 0 0 2 y.n ∧ h' = hO 2 [cutO x.s.n y, keyO x.key]) ∨ False := by
    with_unfolding_all exact hh
  rcases hh with ⟨_, h1, rfl, rfl⟩ | ⟨y, h1, rfl, rfl⟩ | hh
  · exact ⟨_, _, Leq.refl (show (2 : Nat) ≤ 2 by decide), by with_unfolding_all exact Or.inl ⟨(), h1, rfl, rfl⟩⟩
  · refine ⟨.slW 2 0 2 y.n, hO 3 [.abs topS, keyO x.key, roomP y], ?_, by with_unfolding_all exact Or.inr (Or.inl ⟨y, h1, rfl, rfl⟩)⟩
    have h1 := hd_iff.1 h1
    refine (leq_swapW (k := 2) (n := y.n) (N := x.s.n) (rest := [keyO x.key]) rfl (Nat.le_of_lt h1.1)).trans ?_
    refine leq_objs (m := 3) rfl rfl (show (2 : Nat) ≤ 3 by decide) fun i o o' hi hi' => ?_
    match i, hi, hi' with
    | 0, hi, hi' => cases hi; cases hi'; exact fun _ _ _ _ _ h => h
    | 1, hi, hi' => cases hi; cases hi'; exact fun _ _ _ _ _ h => h
    | 2, hi, hi' => cases hi; cases hi'; exact room_same (fun q hq => by rw [nblt_iff.2 hq]; rfl)
  · exact hh.elim⟩
end Go.Proofs.Ytjndgegfonhhfaa
end
section
/- A store in work: a pair set, a key dropped: contracts. -/
namespace Go.Proofs.Ytjndgegfonhhfaa
open Go SE
noncomputable section
structure SV where
  s : Shf
  key : BA
  value : BA
def cellO (p q : AV) : AObj := .cells 25 (.av [p, q])
def roomQ (s : Shf) : AObj := .room 9 (rowQ s)
/-- A store in work, by what of it is none. -/
def shK : Bool → Bool → Nat
  | false, false => 3
  | false, true => 2
  | true, false => 2
  | true, true => 1
def shO (s : Shf) : Bool → Bool → List AObj
  | false, false => [cellO (.slW 1 0 2 s.n) (.slW 2 0 1 s.m), roomP s, roomQ s]
  | false, true => [cellO (.slW 1 0 2 s.n) nilS, roomP s]
  | true, false => [cellO nilS (.slW 1 0 1 s.m), roomQ s]
  | true, true => [cellO nilS nilS]
/-- Its pairs have moved. -/
def mvK : Bool → Bool → Nat
  | false, false => 4
  | false, true => 3
  | true, false => 3
  | true, true => 2
def mvO (s y : Shf) : Bool → Bool → List AObj
  | false, false => [cellO (.slW 3 0 2 y.n) (.slW 2 0 1 s.m), .abs topS, roomQ s, roomP y]
  | false, true => [cellO (.slW 2 0 2 y.n) nilS, .abs topS, roomP y]
  | true, false => [cellO (.slW 2 0 2 y.n) (.slW 1 0 1 s.m), roomQ s, roomP y]
  | true, true => [cellO (.slW 1 0 2 y.n) nilS, roomP y]
def setS (s : Shf) (key value : BA) : Shf := { s with pv := fun q => bif Nat.beq q (placeM s key) then value else s.pv q }
def SV.ok (x : SV) (zp : Bool) : Prop := (zp = true → x.s.n = 0) ∧ x.s.n ≤ 100 ∧ x.key.size ≤ 1500 ∧ ∀ k, k < x.s.n → (x.s.pk k).size ≤ 1500
def setC (zp zq : Bool) : Ctr := { X := SV, args := fun x => [.ptr 0 0, str x.key, str x.value], k := shK zp zq, os := fun x => shO x.s zp zq, pre := fun x => Hd (x.ok zp), outs := [
  { Y := Unit, post := fun x _ => Hd (hadM x.s x.key = true), ret := fun _ _ => boo true, m := shK zp zq, os := fun x _ => shO (setS x.s x.key x.value) zp zq },
  { Y := Nat, post := fun x i => Hd (hadM x.s x.key = false ∧ i ≤ x.s.n), ret := fun _ _ => boo false, m := mvK zp zq, os := fun x i => mvO x.s (insS x.s i x.key x.value) zp zq }] }
def dropC (zp zq : Bool) : Ctr := { X := SK, args := fun x => [.ptr 0 0, str x.key], k := shK zp zq, os := fun x => shO x.s zp zq, pre := fun x => Hd ((SV.mk x.s x.key es).ok zp), outs := [
  { Y := Unit, post := fun x _ => Hd (hadM x.s x.key = false), ret := fun _ _ => boo false, m := shK zp zq, os := fun x _ => shO x.s zp zq },
  { Y := Shf, post := fun x y => Hd (dropR x.s x.key y), ret := fun _ _ => boo true, m := mvK zp zq, os := fun x y => mvO x.s y zp zq }] }
def placeA : Ctr := det SK (fun x => [.agg [.slR 0 0 2 x.s.n, .any], str x.key]) 1 (fun x => [.ro (rowP x.s)]) (fun x => Hd ((SV.mk x.s x.key es).ok false)) (fun x => i64 (placeI x.s x.key)) 1 (fun x => [.ro (rowP x.s)])
def tblS : WTbl := [(68, ctrT placeA), (111, ctrT insC), (112, ctrT delPC)]
def anSet (x : SV) : FuncId → Anns := fun f => bif Nat.beq f 103 then (fun b _ _ => bif Nat.beq b 0 then
    [{ σ := Nat, fr := fun i => [(8, i64 i)], ob := fun _ => [], inv := fun i => i ≤ x.s.n, meas := fun i => x.s.n - i }] else []) else fun _ _ _ => []
end
end Go.Proofs.Ytjndgegfonhhfaa
end
section
/- A store in work: a pair set, a key dropped: what is asked. -/
namespace Go.Proofs.Ytjndgegfonhhfaa
open Go SE
def placeAVC_wp (x : SK) : Prop := wpF Try.prog [] tt (anPlace x) 200 5 68 (placeA.args x) (hO placeA.k (placeA.os x)) (fun v h' => endsP placeA.k x v h' placeA.outs)
def placeAVC (x : SK) : Prop :=
  ((∃ (s : Nat), (((s ≤ x.s.n) ∧ (∀ (j : Nat), ((j < s) → ((eqB (@Shf.pk x.s j) x.key) = Bool.false)))) ∧ (True ∧ (((((s : Nat) : Int) = (0 : Int)) ∧ True) ∧ (((x.key = x.key) ∧ True) ∧ ((((0 = 0) ∧ (x.s.n = x.s.n)) ∧ (True ∧ True)) ∧ ((((rowP x.s) = (rowP x.s)) ∧ (Bool.true = Bool.true)) ∧ True))))))) ∧ ((∀ (s : Nat), (((s ≤ x.s.n) ∧ (∀ (j : Nat), ((j < s) → ((eqB (@Shf.pk x.s j) x.key) = Bool.false)))) → (cP (decide (((s : Nat) : Int) < ((x.s.n : Nat) : Int))) ((((0 : Int) ≤ ((s : Nat) : Int)) ∧ (((s : Nat) : Int) < ((x.s.n : Nat) : Int))) ∧ (((0 + s) < x.s.n) ∧ (cP (@BEq.beq (@List UInt8) (@List.instBEq UInt8 (@instBEqOfDecidableEq UInt8 @instDecidableEqUInt8)) (@ByteArray.toList (@Shf.pk x.s (0 + s))) (@ByteArray.toList x.key)) (∃ (y : Unit), (True ∧ (((@placeI x.s x.key) = ((s : Nat) : Int)) ∧ ((((rowP x.s) = (rowP x.s)) ∧ (Bool.true = Bool.true)) ∧ True)))) ((I64 (((s : Nat) : Int) + (1 : Int))) ∧ (∃ (s_1 : Nat), (((s_1 ≤ x.s.n) ∧ (∀ (j : Nat), ((j < s_1) → ((eqB (@Shf.pk x.s j) x.key) = Bool.false)))) ∧ (((x.s.n - s_1) < (x.s.n - s)) ∧ (((((s_1 : Nat) : Int) = (((s : Nat) : Int) + (1 : Int))) ∧ True) ∧ (((x.key = x.key) ∧ True) ∧ ((((0 = 0) ∧ (x.s.n = x.s.n)) ∧ (True ∧ True)) ∧ ((((rowP x.s) = (rowP x.s)) ∧ (Bool.true = Bool.true)) ∧ True))))))))))) (∃ (y : Unit), (True ∧ (((@placeI x.s x.key) = (-(1 : Int))) ∧ ((((rowP x.s) = (rowP x.s)) ∧ (Bool.true = Bool.true)) ∧ True))))))) ∧ True))
theorem placeAVC_ok (x : SK) : placeAVC x = placeAVC_wp x := by kernel_rfl
def setFFVC_wp (x : SV) : Prop := wpF Try.prog tblS tt (anSet x) 200 6 87 ((setC false false).args x) (hO (setC false false).k ((setC false false).os x)) (fun v h' => endsP (setC false false).k x v h' (setC false false).outs)
def setFFVC (x : SV) : Prop :=
  (∃ (x_1 : @SK), ((Hd (@SV.ok (@SV.mk x_1.s x_1.key es) Bool.false)) ∧ (((((0 = 0) ∧ (x_1.s.n = x.s.n)) ∧ (True ∧ True)) ∧ ((x_1.key = x.key) ∧ True)) ∧ ((((x_1.s.n = x.s.n) ∧ (∀ (q : Nat), ((q < x_1.s.n) → ([(Value.string (@Shf.pk x_1.s q)), (Value.string (@Shf.pv x_1.s q))] = [(Value.string (@Shf.pk x.s q)), (Value.string (@Shf.pv x.s q))])))) ∧ True) ∧ (∀ (y : Unit), (True → (True ∧ (cP (decide (@GE.ge Int @Int.instLEInt (@placeI x_1.s x_1.key) (0 : Int))) ((((0 : Int) ≤ (@placeI x_1.s x_1.key)) ∧ ((@placeI x_1.s x_1.key) < ((x.s.n : Nat) : Int))) ∧ (((0 + (Int.toNat (@placeI x_1.s x_1.key))) < x.s.n) ∧ ((∃ (y_1 : Unit), ((Hd ((@hadM x.s x.key) = Bool.true)) ∧ ((Bool.true = Bool.true) ∧ ((((0 = 0) ∧ (x.s.n = x.s.n)) ∧ (((0 = 0) ∧ (x.s.m = x.s.m)) ∧ True)) ∧ (((x.s.n = x.s.n) ∧ (∀ (q : Nat), ((q < x.s.n) → ([(Value.string (@Shf.pk x.s q)), (Value.string (@cond @BA (@Nat.beq q (@placeM x.s x.key)) x.value (@Shf.pv x.s q)))] = (@Cs.eff (fun (k : Nat) => [(Value.string (@Shf.pk x.s k)), (Value.string (@Shf.pv x.s k))]) [(@Prod.mk Nat (@List Value) (0 + (Int.toNat (@placeI x_1.s x_1.key))) [(Value.string (@Shf.pk x.s (0 + (Int.toNat (@placeI x_1.s x_1.key))))), (Value.string x.value)])] q))))) ∧ (((x.s.m = x.s.m) ∧ (∀ (q : Nat), ((q < x.s.m) → ([(Value.string (@Shf.qv x.s q))] = [(Value.string (@Shf.qv x.s q))])))) ∧ True)))))) ∨ (∃ (y_1 : Nat), ((Hd (((@hadM x.s x.key) = Bool.false) ∧ (y_1 ≤ x.s.n))) ∧ False))))) ((∃ (s : Nat), ((s ≤ x.s.n) ∧ (True ∧ (((((s : Nat) : Int) = (0 : Int)) ∧
 True) ∧ (((x.key = x.key) ∧ True) ∧ (((x.s.m = x.s.m) ∧ (∀ (q : Nat), ((q < x.s.m) → ([(Value.string (@Shf.qv x.s q))] = [(Value.string (@Shf.qv x.s q))])))) ∧ (((x.s.n = x.s.n) ∧ (∀ (q : Nat), ((q < x.s.n) → ([(Value.string (@Shf.pk x.s q)), (Value.string (@Shf.pv x.s q))] = [(Value.string (@Shf.pk x.s q)), (Value.string (@Shf.pv x.s q))])))) ∧ ((((0 = 0) ∧ (x.s.n = x.s.n)) ∧ (((0 = 0) ∧ (x.s.m = x.s.m)) ∧ True)) ∧ True)))))))) ∧ ((∀ (s : Nat), ((s ≤ x.s.n) → (cP (decide (((s : Nat) : Int) < ((x.s.n : Nat) : Int))) ((((0 : Int) ≤ ((s : Nat) : Int)) ∧ (((s : Nat) : Int) < ((x.s.n : Nat) : Int))) ∧ (((0 + s) < x.s.n) ∧ (cP (@Bool.not (@Bool.or (@Op.bytesLess (@ByteArray.toList (@Shf.pk x.s (0 + s))) (@ByteArray.toList x.key)) (@BEq.beq (@List UInt8) (@List.instBEq UInt8 (@instBEqOfDecidableEq UInt8 @instDecidableEqUInt8)) (@ByteArray.toList (@Shf.pk x.s (0 + s))) (@ByteArray.toList x.key)))) ((((AV.slW 1 0 2 x.s.n) = (AV.slW 1 0 2 x.s.n)) ∧ True) ∧ (∃ (x_2 : @IP), ((Hd ((x_2.i ≤ x_2.s.n) ∧ (x_2.s.n ≤ 100))) ∧ ((((0 = 0) ∧ (x_2.s.n = x.s.n)) ∧ ((((x_2.i : Nat) : Int) = ((s : Nat) : Int)) ∧ (((0 = 0) ∧ ((1 = 1) ∧ (1 = 1))) ∧ True))) ∧ ((((x_2.s.n = x.s.n) ∧ (∀ (q : Nat), ((q < x_2.s.n) → ([(Value.string (@Shf.pk x_2.s q)), (Value.string (@Shf.pv x_2.s q))] = [(Value.string (@Shf.pk x.s q)), (Value.string (@Shf.pv x.s q))])))) ∧ (((x_2.key = x.key) ∧ ((x_2.value = x.value) ∧ True)) ∧ True)) ∧ (∀ (y_1 : Unit), (True → (True ∧ (True ∧ ((∃ (y_2 : Unit), ((Hd ((@hadM x.s x.key) = Bool.true)) ∧
 False)) ∨ (∃ (y_2 : Nat), ((Hd (((@hadM x.s x.key) = Bool.false) ∧ (y_2 ≤ x.s.n))) ∧ ((Bool.false = Bool.false) ∧ ((((0 = 0) ∧ ((x.s.n + 1) = (x_2.s.n + 1))) ∧ (((0 = 0) ∧ (x.s.m = x.s.m)) ∧ True)) ∧ ((@topS = @topS) ∧ (((x.s.m = x.s.m) ∧ (∀ (q : Nat), ((q < x.s.m) → ([(Value.string (@Shf.qv x.s q))] = [(Value.string (@Shf.qv x.s q))])))) ∧ ((((x.s.n + 1) = (x_2.s.n + 1)) ∧ (∀ (q : Nat), ((q < (x.s.n + 1)) → ([(Value.string (@insF @BA x.s.pk y_2 x.key q)), (Value.string (@insF @BA x.s.pv y_2 x.value q))] = [(Value.string (@insF @BA x_2.s.pk x_2.i x_2.key q)), (Value.string (@insF @BA x_2.s.pv x_2.i x_2.value q))])))) ∧ True))))))))))))))))) ((I64 (((s : Nat) : Int) + (1 : Int))) ∧ (∃ (s_1 : Nat), ((s_1 ≤ x.s.n) ∧ (((x.s.n - s_1) < (x.s.n - s)) ∧ (((((s_1 : Nat) : Int) = (((s : Nat) : Int) + (1 : Int))) ∧ True) ∧ (((x.key = x.key) ∧ True) ∧ (((x.s.m = x.s.m) ∧ (∀ (q : Nat), ((q < x.s.m) → ([(Value.string (@Shf.qv x.s q))] = [(Value.string (@Shf.qv x.s q))])))) ∧ (((x.s.n = x.s.n) ∧ (∀ (q : Nat), ((q < x.s.n) → ([(Value.string (@Shf.pk x.s q)), (Value.string (@Shf.pv x.s q))] = [(Value.string (@Shf.pk x.s q)), (Value.string (@Shf.pv x.s q))])))) ∧ ((((0 = 0) ∧ (x.s.n = x.s.n)) ∧ (((0 = 0) ∧ (x.s.m = x.s.m)) ∧ True)) ∧ True)))))))))))) ((((AV.slW 1 0 2 x.s.n) = (AV.slW 1 0 2 x.s.n)) ∧ True) ∧ (∃ (x_2 : @IP), ((Hd ((x_2.i ≤ x_2.s.n) ∧ (x_2.s.n ≤ 100))) ∧ ((((0 = 0) ∧ (x_2.s.n = x.s.n)) ∧ ((((x_2.i : Nat) : Int) = ((x.s.n : Nat) : Int)) ∧ (((0 = 0) ∧ ((1 = 1) ∧ (1 = 1))) ∧ True))) ∧
 ((((x_2.s.n = x.s.n) ∧ (∀ (q : Nat), ((q < x_2.s.n) → ([(Value.string (@Shf.pk x_2.s q)), (Value.string (@Shf.pv x_2.s q))] = [(Value.string (@Shf.pk x.s q)), (Value.string (@Shf.pv x.s q))])))) ∧ (((x_2.key = x.key) ∧ ((x_2.value = x.value) ∧ True)) ∧ True)) ∧ (∀ (y_1 : Unit), (True → (True ∧ (True ∧ ((∃ (y_2 : Unit), ((Hd ((@hadM x.s x.key) = Bool.true)) ∧ False)) ∨ (∃ (y_2 : Nat), ((Hd (((@hadM x.s x.key) = Bool.false) ∧ (y_2 ≤ x.s.n))) ∧ ((Bool.false = Bool.false) ∧ ((((0 = 0) ∧ ((x.s.n + 1) = (x_2.s.n + 1))) ∧ (((0 = 0) ∧ (x.s.m = x.s.m)) ∧ True)) ∧ ((@topS = @topS) ∧ (((x.s.m = x.s.m) ∧ (∀ (q : Nat), ((q < x.s.m) → ([(Value.string (@Shf.qv x.s q))] = [(Value.string (@Shf.qv x.s q))])))) ∧ ((((x.s.n + 1) = (x_2.s.n + 1)) ∧ (∀ (q : Nat), ((q < (x.s.n + 1)) → ([(Value.string (@insF @BA x.s.pk y_2 x.key q)), (Value.string (@insF @BA x.s.pv y_2 x.value q))] = [(Value.string (@insF @BA x_2.s.pk x_2.i x_2.key q)), (Value.string (@insF @BA x_2.s.pv x_2.i x_2.value q))])))) ∧ True)))))))))))))))))))) ∧ True))))))))))
theorem setFFVC_ok (x : SV) : setFFVC x = setFFVC_wp x := by kernel_rfl
def setFTVC_wp (x : SV) : Prop := wpF Try.prog tblS tt (anSet x) 200 6 87 ((setC false true).args x) (hO (setC false true).k ((setC false true).os x)) (fun v h' => endsP (setC false true).k x v h' (setC false true).outs)
def setFTVC (x : SV) : Prop :=
  (∃ (x_1 : @SK), ((Hd (@SV.ok (@SV.mk x_1.s x_1.key es) Bool.false)) ∧ (((((0 = 0) ∧ (x_1.s.n = x.s.n)) ∧ (True ∧ True)) ∧ ((x_1.key = x.key) ∧ True)) ∧ ((((x_1.s.n = x.s.n) ∧ (∀ (q : Nat), ((q < x_1.s.n) → ([(Value.string (@Shf.pk x_1.s q)), (Value.string (@Shf.pv x_1.s q))] = [(Value.string (@Shf.pk x.s q)), (Value.string (@Shf.pv x.s q))])))) ∧ True) ∧ (∀ (y : Unit), (True → (True ∧ (cP (decide (@GE.ge Int @Int.instLEInt (@placeI x_1.s x_1.key) (0 : Int))) ((((0 : Int) ≤ (@placeI x_1.s x_1.key)) ∧ ((@placeI x_1.s x_1.key) < ((x.s.n : Nat) : Int))) ∧ (((0 + (Int.toNat (@placeI x_1.s x_1.key))) < x.s.n) ∧ ((∃ (y_1 : Unit), ((Hd ((@hadM x.s x.key) = Bool.true)) ∧ ((Bool.true = Bool.true) ∧ ((((0 = 0) ∧ (x.s.n = x.s.n)) ∧ (((Value.slice none 0 0) = (Value.slice none 0 0)) ∧ True)) ∧ (((x.s.n = x.s.n) ∧ (∀ (q : Nat), ((q < x.s.n) → ([(Value.string (@Shf.pk x.s q)), (Value.string (@cond @BA (@Nat.beq q (@placeM x.s x.key)) x.value (@Shf.pv x.s q)))] = (@Cs.eff (fun (k : Nat) => [(Value.string (@Shf.pk x.s k)), (Value.string (@Shf.pv x.s k))]) [(@Prod.mk Nat (@List Value) (0 + (Int.toNat (@placeI x_1.s x_1.key))) [(Value.string (@Shf.pk x.s (0 + (Int.toNat (@placeI x_1.s x_1.key))))), (Value.string x.value)])] q))))) ∧ True))))) ∨ (∃ (y_1 : Nat), ((Hd (((@hadM x.s x.key) = Bool.false) ∧ (y_1 ≤ x.s.n))) ∧ False))))) ((∃ (s : Nat), ((s ≤ x.s.n) ∧ (True ∧ (((((s : Nat) : Int) = (0 : Int)) ∧ True) ∧ (((x.key = x.key) ∧ True) ∧ (((x.s.n = x.s.n) ∧ (∀ (q : Nat), ((q < x.s.n) → ([(Value.string (@Shf.pk x.s q)), (Value.string (@Shf.pv x.s q))] = [(Value.string (@Shf.pk x.s q)), (Value.string (@Shf.pv x.s q))])))) ∧
 ((((0 = 0) ∧ (x.s.n = x.s.n)) ∧ (((Value.slice none 0 0) = (Value.slice none 0 0)) ∧ True)) ∧ True))))))) ∧ ((∀ (s : Nat), ((s ≤ x.s.n) → (cP (decide (((s : Nat) : Int) < ((x.s.n : Nat) : Int))) ((((0 : Int) ≤ ((s : Nat) : Int)) ∧ (((s : Nat) : Int) < ((x.s.n : Nat) : Int))) ∧ (((0 + s) < x.s.n) ∧ (cP (@Bool.not (@Bool.or (@Op.bytesLess (@ByteArray.toList (@Shf.pk x.s (0 + s))) (@ByteArray.toList x.key)) (@BEq.beq (@List UInt8) (@List.instBEq UInt8 (@instBEqOfDecidableEq UInt8 @instDecidableEqUInt8)) (@ByteArray.toList (@Shf.pk x.s (0 + s))) (@ByteArray.toList x.key)))) ((((AV.slW 1 0 2 x.s.n) = (AV.slW 1 0 2 x.s.n)) ∧ True) ∧ (∃ (x_2 : @IP), ((Hd ((x_2.i ≤ x_2.s.n) ∧ (x_2.s.n ≤ 100))) ∧ ((((0 = 0) ∧ (x_2.s.n = x.s.n)) ∧ ((((x_2.i : Nat) : Int) = ((s : Nat) : Int)) ∧ (((0 = 0) ∧ ((1 = 1) ∧ (1 = 1))) ∧ True))) ∧ ((((x_2.s.n = x.s.n) ∧ (∀ (q : Nat), ((q < x_2.s.n) → ([(Value.string (@Shf.pk x_2.s q)), (Value.string (@Shf.pv x_2.s q))] = [(Value.string (@Shf.pk x.s q)), (Value.string (@Shf.pv x.s q))])))) ∧ (((x_2.key = x.key) ∧ ((x_2.value = x.value) ∧ True)) ∧ True)) ∧ (∀ (y_1 : Unit), (True → (True ∧ (True ∧ ((∃ (y_2 : Unit), ((Hd ((@hadM x.s x.key) = Bool.true)) ∧ False)) ∨ (∃ (y_2 : Nat), ((Hd (((@hadM x.s x.key) = Bool.false) ∧ (y_2 ≤ x.s.n))) ∧ ((Bool.false = Bool.false) ∧ ((((0 = 0) ∧ ((x.s.n + 1) = (x_2.s.n + 1))) ∧ (((Value.slice none 0 0) = (Value.slice none 0 0)) ∧ True)) ∧ ((@topS = @topS) ∧ ((((x.s.n + 1) = (x_2.s.n + 1)) ∧ (∀ (q : Nat), ((q < (x.s.n + 1)) → ([(Value.string (@insF @BA x.s.pk y_2 x.key q)), (Value.string (@insF @BA x.s.pv y_2 x.value q))] = [(Value.string (@insF @BA x_2.s.pk x_2.i x_2.key q)), (Value.string (@insF @BA x_2.s.pv x_2.i x_2.value q))])))) ∧
 True)))))))))))))))) ((I64 (((s : Nat) : Int) + (1 : Int))) ∧ (∃ (s_1 : Nat), ((s_1 ≤ x.s.n) ∧ (((x.s.n - s_1) < (x.s.n - s)) ∧ (((((s_1 : Nat) : Int) = (((s : Nat) : Int) + (1 : Int))) ∧ True) ∧ (((x.key = x.key) ∧ True) ∧ (((x.s.n = x.s.n) ∧ (∀ (q : Nat), ((q < x.s.n) → ([(Value.string (@Shf.pk x.s q)), (Value.string (@Shf.pv x.s q))] = [(Value.string (@Shf.pk x.s q)), (Value.string (@Shf.pv x.s q))])))) ∧ ((((0 = 0) ∧ (x.s.n = x.s.n)) ∧ (((Value.slice none 0 0) = (Value.slice none 0 0)) ∧ True)) ∧ True))))))))))) ((((AV.slW 1 0 2 x.s.n) = (AV.slW 1 0 2 x.s.n)) ∧ True) ∧ (∃ (x_2 : @IP), ((Hd ((x_2.i ≤ x_2.s.n) ∧ (x_2.s.n ≤ 100))) ∧ ((((0 = 0) ∧ (x_2.s.n = x.s.n)) ∧ ((((x_2.i : Nat) : Int) = ((x.s.n : Nat) : Int)) ∧ (((0 = 0) ∧ ((1 = 1) ∧ (1 = 1))) ∧ True))) ∧ ((((x_2.s.n = x.s.n) ∧ (∀ (q : Nat), ((q < x_2.s.n) → ([(Value.string (@Shf.pk x_2.s q)), (Value.string (@Shf.pv x_2.s q))] = [(Value.string (@Shf.pk x.s q)), (Value.string (@Shf.pv x.s q))])))) ∧ (((x_2.key = x.key) ∧ ((x_2.value = x.value) ∧ True)) ∧ True)) ∧ (∀ (y_1 : Unit), (True → (True ∧ (True ∧ ((∃ (y_2 : Unit), ((Hd ((@hadM x.s x.key) = Bool.true)) ∧ False)) ∨ (∃ (y_2 : Nat), ((Hd (((@hadM x.s x.key) = Bool.false) ∧ (y_2 ≤ x.s.n))) ∧ ((Bool.false = Bool.false) ∧ ((((0 = 0) ∧ ((x.s.n + 1) = (x_2.s.n + 1))) ∧ (((Value.slice none 0 0) = (Value.slice none 0 0)) ∧ True)) ∧ ((@topS = @topS) ∧ ((((x.s.n + 1) = (x_2.s.n + 1)) ∧ (∀ (q : Nat), ((q < (x.s.n + 1)) → ([(Value.string (@insF @BA x.s.pk y_2 x.key q)), (Value.string (@insF @BA x.s.pv y_2 x.value q))] = [(Value.string (@insF @BA x_2.s.pk x_2.i x_2.key q)), (Value.string (@insF @BA x_2.s.pv x_2.i x_2.value q))])))) ∧
 True))))))))))))))))))) ∧ True))))))))))
theorem setFTVC_ok (x : SV) : setFTVC x = setFTVC_wp x := by kernel_rfl
def setTFVC_wp (x : SV) : Prop := wpF Try.prog [] tt noAn 200 6 87 ((setC true false).args x) (hO (setC true false).k ((setC true false).os x)) (fun v h' => endsP (setC true false).k x v h' (setC true false).outs)
def setTFVC (x : SV) : Prop :=
  (True ∧ ((((AV.lit (Value.slice none 0 0)) = (AV.lit (Value.slice none 0 0))) ∧ True) ∧ (((0 : Int) ≤ (0 : Int)) ∧ (((0 ≤ 0) ∧ ((0 ≤ 0) ∧ (0 ≤ 0))) ∧ (((((2 * (0 + 1)) + 1000) * 32) ≤ 281474976710656) ∧ (True ∧ (True ∧ ((∃ (y : Unit), ((Hd ((@hadM x.s x.key) = Bool.true)) ∧ ((Bool.true = Bool.false) ∧ ((False ∧ (((0 = 0) ∧ (x.s.m = x.s.m)) ∧ True)) ∧ (((x.s.m = x.s.m) ∧ (∀ (q : Nat), ((q < x.s.m) → ([(Value.string (@Shf.qv x.s q))] = [(Value.string (@Shf.qv x.s q))])))) ∧ True))))) ∨ (∃ (y : Nat), ((Hd (((@hadM x.s x.key) = Bool.false) ∧ (y ≤ x.s.n))) ∧ ((Bool.false = Bool.false) ∧ ((((0 = 0) ∧ ((x.s.n + 1) = 1)) ∧ (((0 = 0) ∧ (x.s.m = x.s.m)) ∧ True)) ∧ (((x.s.m = x.s.m) ∧ (∀ (q : Nat), ((q < x.s.m) → ([(Value.string (@Shf.qv x.s q))] = [(Value.string (@Shf.qv x.s q))])))) ∧ ((((x.s.n + 1) = (0 + (@List.length (@List Value) [(@List.take Value 2 [(Value.string x.key), (Value.string x.value)])]))) ∧ (∀ (q : Nat), ((q < (x.s.n + 1)) → ([(Value.string (@insF @BA x.s.pk y x.key q)), (Value.string (@insF @BA x.s.pv y x.value q))] = (@Cs.eff (fun (x_1 : Nat) => (@List.nil Value)) [(@Prod.mk Nat (@List Value) 0 (@List.take Value 2 [(Value.string x.key), (Value.string x.value)]))] q))))) ∧ True))))))))))))))
theorem setTFVC_ok (x : SV) : setTFVC x = setTFVC_wp x := by kernel_rfl
def setTTVC_wp (x : SV) : Prop := wpF Try.prog [] tt noAn 200 6 87 ((setC true true).args x) (hO (setC true true).k ((setC true true).os x)) (fun v h' => endsP (setC true true).k x v h' (setC true true).outs)
def setTTVC (x : SV) : Prop :=
  (True ∧ ((((AV.lit (Value.slice none 0 0)) = (AV.lit (Value.slice none 0 0))) ∧ True) ∧ (((0 : Int) ≤ (0 : Int)) ∧ (((0 ≤ 0) ∧ ((0 ≤ 0) ∧ (0 ≤ 0))) ∧ (((((2 * (0 + 1)) + 1000) * 32) ≤ 281474976710656) ∧ (True ∧ (True ∧ ((∃ (y : Unit), ((Hd ((@hadM x.s x.key) = Bool.true)) ∧ ((Bool.true = Bool.false) ∧ ((False ∧ (((Value.slice none 0 0) = (Value.slice none 0 0)) ∧ True)) ∧ True)))) ∨ (∃ (y : Nat), ((Hd (((@hadM x.s x.key) = Bool.false) ∧ (y ≤ x.s.n))) ∧ ((Bool.false = Bool.false) ∧ ((((0 = 0) ∧ ((x.s.n + 1) = 1)) ∧ (((Value.slice none 0 0) = (Value.slice none 0 0)) ∧ True)) ∧ ((((x.s.n + 1) = (0 + (@List.length (@List Value) [(@List.take Value 2 [(Value.string x.key), (Value.string x.value)])]))) ∧ (∀ (q : Nat), ((q < (x.s.n + 1)) → ([(Value.string (@insF @BA x.s.pk y x.key q)), (Value.string (@insF @BA x.s.pv y x.value q))] = (@Cs.eff (fun (x_1 : Nat) => (@List.nil Value)) [(@Prod.mk Nat (@List Value) 0 (@List.take Value 2 [(Value.string x.key), (Value.string x.value)]))] q))))) ∧ True)))))))))))))
theorem setTTVC_ok (x : SV) : setTTVC x = setTTVC_wp x := by kernel_rfl
def dropFFVC_wp (x : SK) : Prop := wpF Try.prog tblS tt noAn 200 6 89 ((dropC false false).args x) (hO (dropC false false).k ((dropC false false).os x)) (fun v h' => endsP (dropC false false).k x v h' (dropC false false).outs)
def dropFFVC (x : SK) : Prop :=
  (∃ (x_1 : @SK), ((Hd ((x_1.s.n ≤ 100) ∧ (∀ (k : Nat), ((k < x_1.s.n) → ((@ByteArray.size (@Shf.pk x_1.s k)) ≤ 1500))))) ∧ ((((0 = 0) ∧ (x_1.s.n = x.s.n)) ∧ ((((@Fn.func (113 : @FuncId)) = (@Fn.func 113)) ∧ (True ∧ ((0 = 0) ∧ True))) ∧ True)) ∧ ((((x_1.s.n = x.s.n) ∧ (∀ (q : Nat), ((q < x_1.s.n) → ([(Value.string (@Shf.pk x_1.s q)), (Value.string (@Shf.pv x_1.s q))] = [(Value.string (@Shf.pk x.s q)), (Value.string (@Shf.pv x.s q))])))) ∧ (((x_1.key = x.key) ∧ True) ∧ True)) ∧ ((∀ (y : Unit), ((Hd ((@hadM x_1.s x_1.key) = Bool.false)) → ((∃ (y_1 : Unit), ((Hd ((@hadM x.s x.key) = Bool.false)) ∧ ((Bool.false = (decide (((x_1.s.n : Nat) : Int) < ((x.s.n : Nat) : Int)))) ∧ ((((0 = 0) ∧ (x.s.n = x_1.s.n)) ∧ (((0 = 0) ∧ (x.s.m = x.s.m)) ∧ True)) ∧ (((x.s.n = x_1.s.n) ∧ (∀ (q : Nat), ((q < x.s.n) → ([(Value.string (@Shf.pk x.s q)), (Value.string (@Shf.pv x.s q))] = [(Value.string (@Shf.pk x_1.s q)), (Value.string (@Shf.pv x_1.s q))])))) ∧ (((x.s.m = x.s.m) ∧ (∀ (q : Nat), ((q < x.s.m) → ([(Value.string (@Shf.qv x.s q))] = [(Value.string (@Shf.qv x.s q))])))) ∧ True)))))) ∨ (∃ (y_1 : @Shf), ((Hd (@dropR x.s x.key y_1)) ∧ False))))) ∧ (∀ (y : @Shf), ((Hd (@dropR x_1.s x_1.key y)) → ((∃ (y_1 : Unit), ((Hd ((@hadM x.s x.key) = Bool.false)) ∧ False)) ∨ (∃ (y_1 : @Shf), ((Hd (@dropR x.s x.key y_1)) ∧ ((Bool.true = (decide (((y.n : Nat) : Int) < ((x.s.n : Nat) : Int)))) ∧ ((((0 = 0) ∧ (y_1.n = y.n)) ∧ (((0 = 0) ∧ (x.s.m = x.s.m)) ∧ True)) ∧ ((@topS = @topS) ∧ (((x.s.m = x.s.m) ∧ (∀ (q : Nat), ((q < x.s.m) → ([(Value.string (@Shf.qv x.s q))] = [(Value.string (@Shf.qv x.s q))])))) ∧
 (((y_1.n = y.n) ∧ (∀ (q : Nat), ((q < y_1.n) → ([(Value.string (@Shf.pk y_1 q)), (Value.string (@Shf.pv y_1 q))] = [(Value.string (@Shf.pk y q)), (Value.string (@Shf.pv y q))])))) ∧ True)))))))))))))))
theorem dropFFVC_ok (x : SK) : dropFFVC x = dropFFVC_wp x := by kernel_rfl
def dropFTVC_wp (x : SK) : Prop := wpF Try.prog tblS tt noAn 200 6 89 ((dropC false true).args x) (hO (dropC false true).k ((dropC false true).os x)) (fun v h' => endsP (dropC false true).k x v h' (dropC false true).outs)
def dropFTVC (x : SK) : Prop :=
  (∃ (x_1 : @SK), ((Hd ((x_1.s.n ≤ 100) ∧ (∀ (k : Nat), ((k < x_1.s.n) → ((@ByteArray.size (@Shf.pk x_1.s k)) ≤ 1500))))) ∧ ((((0 = 0) ∧ (x_1.s.n = x.s.n)) ∧ ((((@Fn.func (113 : @FuncId)) = (@Fn.func 113)) ∧ (True ∧ ((0 = 0) ∧ True))) ∧ True)) ∧ ((((x_1.s.n = x.s.n) ∧ (∀ (q : Nat), ((q < x_1.s.n) → ([(Value.string (@Shf.pk x_1.s q)), (Value.string (@Shf.pv x_1.s q))] = [(Value.string (@Shf.pk x.s q)), (Value.string (@Shf.pv x.s q))])))) ∧ (((x_1.key = x.key) ∧ True) ∧ True)) ∧ ((∀ (y : Unit), ((Hd ((@hadM x_1.s x_1.key) = Bool.false)) → ((∃ (y_1 : Unit), ((Hd ((@hadM x.s x.key) = Bool.false)) ∧ ((Bool.false = (decide (((x_1.s.n : Nat) : Int) < ((x.s.n : Nat) : Int)))) ∧ ((((0 = 0) ∧ (x.s.n = x_1.s.n)) ∧ (((Value.slice none 0 0) = (Value.slice none 0 0)) ∧ True)) ∧ (((x.s.n = x_1.s.n) ∧ (∀ (q : Nat), ((q < x.s.n) → ([(Value.string (@Shf.pk x.s q)), (Value.string (@Shf.pv x.s q))] = [(Value.string (@Shf.pk x_1.s q)), (Value.string (@Shf.pv x_1.s q))])))) ∧ True))))) ∨ (∃ (y_1 : @Shf), ((Hd (@dropR x.s x.key y_1)) ∧ False))))) ∧ (∀ (y : @Shf), ((Hd (@dropR x_1.s x_1.key y)) → ((∃ (y_1 : Unit), ((Hd ((@hadM x.s x.key) = Bool.false)) ∧ False)) ∨ (∃ (y_1 : @Shf), ((Hd (@dropR x.s x.key y_1)) ∧ ((Bool.true = (decide (((y.n : Nat) : Int) < ((x.s.n : Nat) : Int)))) ∧ ((((0 = 0) ∧ (y_1.n = y.n)) ∧ (((Value.slice none 0 0) = (Value.slice none 0 0)) ∧ True)) ∧ ((@topS = @topS) ∧ (((y_1.n = y.n) ∧ (∀ (q : Nat), ((q < y_1.n) → ([(Value.string (@Shf.pk y_1 q)), (Value.string (@Shf.pv y_1 q))] = [(Value.string (@Shf.pk y q)), (Value.string (@Shf.pv y q))])))) ∧
 True))))))))))))))
theorem dropFTVC_ok (x : SK) : dropFTVC x = dropFTVC_wp x := by kernel_rfl
def dropTFVC_wp (x : SK) : Prop := wpF Try.prog [] tt noAn 200 6 89 ((dropC true false).args x) (hO (dropC true false).k ((dropC true false).os x)) (fun v h' => endsP (dropC true false).k x v h' (dropC true false).outs)
def dropTFVC (x : SK) : Prop :=
  ((∃ (y : Unit), ((Hd ((@hadM x.s x.key) = Bool.false)) ∧ ((Bool.false = Bool.false) ∧ ((((Value.slice none 0 0) = (Value.slice none 0 0)) ∧ (((0 = 0) ∧ (x.s.m = x.s.m)) ∧ True)) ∧ (((x.s.m = x.s.m) ∧ (∀ (q : Nat), ((q < x.s.m) → ([(Value.string (@Shf.qv x.s q))] = [(Value.string (@Shf.qv x.s q))])))) ∧ True))))) ∨ (∃ (y : @Shf), ((Hd (@dropR x.s x.key y)) ∧ ((Bool.true = Bool.false) ∧ ((False ∧ (((0 = 0) ∧ (x.s.m = x.s.m)) ∧ True)) ∧ (((x.s.m = x.s.m) ∧ (∀ (q : Nat), ((q < x.s.m) → ([(Value.string (@Shf.qv x.s q))] = [(Value.string (@Shf.qv x.s q))])))) ∧ (False ∧ True)))))))
theorem dropTFVC_ok (x : SK) : dropTFVC x = dropTFVC_wp x := by kernel_rfl
def dropTTVC_wp (x : SK) : Prop := wpF Try.prog [] tt noAn 200 6 89 ((dropC true true).args x) (hO (dropC true true).k ((dropC true true).os x)) (fun v h' => endsP (dropC true true).k x v h' (dropC true true).outs)
def dropTTVC (x : SK) : Prop :=
  ((∃ (y : Unit), ((Hd ((@hadM x.s x.key) = Bool.false)) ∧ ((Bool.false = Bool.false) ∧ ((((Value.slice none 0 0) = (Value.slice none 0 0)) ∧ (((Value.slice none 0 0) = (Value.slice none 0 0)) ∧ True)) ∧ True)))) ∨ (∃ (y : @Shf), ((Hd (@dropR x.s x.key y)) ∧ ((Bool.true = Bool.false) ∧ ((False ∧ (((Value.slice none 0 0) = (Value.slice none 0 0)) ∧ True)) ∧ (False ∧ True))))))
theorem dropTTVC_ok (x : SK) : dropTTVC x = dropTTVC_wp x := by kernel_rfl
end Go.Proofs.Ytjndgegfonhhfaa
end
section
/- A store in work: a pair set, a key dropped: what is asked is so. -/
namespace Go.Proofs.Ytjndgegfonhhfaa
open Go SE
theorem place_nn {s : Shf} {k : BA} (h : placeI s k ≥ 0) : hadM s k = true ∧ (placeI s k).toNat = placeM s k ∧ placeM s k < s.n := by
  unfold placeI at h ⊢
  cases hb : hadM s k with
  | false => rw [hb] at h; simp at h
  | true =>
    refine ⟨rfl, by simp, ?_⟩
    unfold hadM at hb
    exact of_decide_eq_true hb
theorem place_neg {s : Shf} {k : BA} (h : ¬ placeI s k ≥ 0) : hadM s k = false := by
  unfold placeI at h
  cases hb : hadM s k with
  | false => rfl
  | true => rw [hb] at h; simp at h
theorem placeAVC_true (x : SK) (hx : (SV.mk x.s x.key es).ok false) : placeAVC x := by
  obtain ⟨s, key⟩ := x
  obtain ⟨_, hn, _, _⟩ := hx
  dsimp only at hn
  unfold placeAVC
  simp only [hd_iff, and_true, true_and, Nat.zero_add, Nat.add_zero, unit_ex, unit_all, true_implies, implies_true, Int.toNat_natCast, eq_self, and_self, eL]
  refine ⟨⟨0, ⟨by omega, fun j hj => by omega⟩, rfl⟩, fun i ⟨hi, hno⟩ => cP_intro (fun hlt => ?_) (fun hlt => ?_)⟩
  · have hlt := of_decide_eq_true hlt
    refine ⟨⟨by omega, hlt⟩, by omega, cP_intro (fun hit => ?_) (fun hit => ⟨by unfold I64; omega, i + 1, ⟨by omega, fun j hj => ?_⟩, by omega, by omega⟩)⟩
    · obtain ⟨e1, e2⟩ := place_at (s := s) (key := key) (i := i) (by omega) hno hit
      unfold placeI; rw [e2, e1]; rfl
    · by_cases h : j = i
      · subst h; exact hit
      · exact hno j (by omega)
  · have : i = s.n := by have := of_decide_eq_false hlt; omega
    subst this
    unfold placeI; rw [hadM_not hno]; rfl
theorem setS_row (s : Shf) (key value : BA) (p : Nat) (hp : p = placeM s key) (q : Nat) : [Value.string (s.pk q), Value.string (bif Nat.beq q (placeM s key) then value else s.pv q)] = Cs.eff (fun k => [Value.string (s.pk k), Value.string (s.pv k)]) [(p, [Value.string (s.pk p), Value.string value])] q := by
  subst hp
  simp only [Cs.eff]
  by_cases h : q = placeM s key
  · subst h; simp
  · rw [nbeq_ne h]; rfl
theorem setFFVC_true (x : SV) (hx : x.ok false) : setFFVC x := by
  obtain ⟨s, key, value⟩ := x
  have hx0 := hx
  obtain ⟨_, hn, hk, hkk⟩ := hx
  dsimp only at hn hk hkk
  unfold setFFVC
  simp only [hd_iff, and_true, true_and, Nat.zero_add, Nat.add_zero, unit_ex, unit_all, true_implies, implies_true, Int.toNat_natCast, eq_self, and_self, eL, Nat.sub_zero]
  refine ⟨⟨s, key⟩, ⟨(fun h => by cases h), hn, hk, hkk⟩, ⟨rfl, rfl⟩, ⟨rfl, fun q _ => rfl⟩, cP_intro (fun h => ?_) (fun h => ?_)⟩
  · have h := of_decide_eq_true h
    obtain ⟨e1, e2, e3⟩ := place_nn h
    dsimp only at e1 e2 e3 h ⊢
    exact ⟨⟨h, by omega⟩, by omega, .inl ⟨e1, fun q _ => setS_row s key value _ e2 q⟩⟩
  · have h := place_neg (of_decide_eq_false h)
    dsimp only at h ⊢
    refine ⟨⟨0, by omega, rfl⟩, fun i hi => cP_intro (fun hlt => ?_) (fun hlt => ?_)⟩
    · have hlt := of_decide_eq_true hlt
      exact ⟨⟨by omega, hlt⟩, by omega, cP_intro (fun _ => ⟨⟨s, i, key, value⟩, ⟨hi, hn⟩, ⟨rfl, rfl⟩, ⟨⟨rfl, fun q _ => rfl⟩, rfl, rfl⟩, .inr ⟨i, ⟨h, hi⟩, rfl, rfl, fun q _ => rfl⟩⟩) (fun _ => ⟨by unfold I64; omega, i + 1, by omega, by omega, by omega⟩)⟩
    · exact ⟨⟨s, s.n, key, value⟩, ⟨Nat.le_refl _, hn⟩, ⟨rfl, rfl⟩, ⟨⟨rfl, fun q _ => rfl⟩, rfl, rfl⟩, .inr ⟨s.n, ⟨h, Nat.le_refl _⟩, rfl, rfl, fun q _ => rfl⟩⟩
theorem dropFFVC_true (x : SK) (hx : (SV.mk x.s x.key es).ok false) : dropFFVC x := by
  obtain ⟨s, key⟩ := x
  obtain ⟨_, hn, hk, hkk⟩ := hx
  dsimp only at hn hk hkk
  unfold dropFFVC
  simp only [hd_iff, and_true, true_and, Nat.zero_add, Nat.add_zero, unit_ex, unit_all, true_implies, implies_true, Int.toNat_natCast, eq_self, and_self, eL, Nat.sub_zero]
  refine ⟨⟨s, key⟩, ⟨hn, hkk⟩, rfl, ⟨⟨rfl, fun q _ => rfl⟩, rfl⟩, fun h => .inl ⟨h, ?_, rfl, rfl, fun q _ => rfl⟩, fun y hy => .inr ⟨y, hy, ?_, rfl, rfl, fun q _ => rfl⟩⟩
  · simp
  · exact (decide_eq_true (by have := hy.1; dsimp only at this ⊢; omega)).symm
theorem setFTVC_true (x : SV) (hx : x.ok false) : setFTVC x := by
  obtain ⟨s, key, value⟩ := x
  have hx0 := hx
  obtain ⟨_, hn, hk, hkk⟩ := hx
  dsimp only at hn hk hkk
  unfold setFTVC
  simp only [hd_iff, and_true, true_and, Nat.zero_add, Nat.add_zero, unit_ex, unit_all, true_implies, implies_true, Int.toNat_natCast, eq_self, and_self, eL, Nat.sub_zero]
  refine ⟨⟨s, key⟩, ⟨(fun h => by cases h), hn, hk, hkk⟩, ⟨rfl, rfl⟩, ⟨rfl, fun q _ => rfl⟩, cP_intro (fun h => ?_) (fun h => ?_)⟩
  · have h := of_decide_eq_true h
    obtain ⟨e1, e2, e3⟩ := place_nn h
    dsimp only at e1 e2 e3 h ⊢
    exact ⟨⟨h, by omega⟩, by omega, .inl ⟨e1, fun q _ => setS_row s key value _ e2 q⟩⟩
  · have h := place_neg (of_decide_eq_false h)
    dsimp only at h ⊢
    refine ⟨⟨0, by omega, rfl⟩, fun i hi => cP_intro (fun hlt => ?_) (fun hlt => ?_)⟩
    · have hlt := of_decide_eq_true hlt
      exact ⟨⟨by omega, hlt⟩, by omega, cP_intro (fun _ => ⟨⟨s, i, key, value⟩, ⟨hi, hn⟩, ⟨rfl, rfl⟩, ⟨⟨rfl, fun q _ => rfl⟩, rfl, rfl⟩, .inr ⟨i, ⟨h, hi⟩, rfl, rfl, fun q _ => rfl⟩⟩) (fun _ => ⟨by unfold I64; omega, i + 1, by omega, by omega, by omega⟩)⟩
    · exact ⟨⟨s, s.n, key, value⟩, ⟨Nat.le_refl _, hn⟩, ⟨rfl, rfl⟩, ⟨⟨rfl, fun q _ => rfl⟩, rfl, rfl⟩, .inr ⟨s.n, ⟨h, Nat.le_refl _⟩, rfl, rfl, fun q _ => rfl⟩⟩
theorem dropFTVC_true (x : SK) (hx : (SV.mk x.s x.key es).ok false) : dropFTVC x := by
  obtain ⟨s, key⟩ := x
  obtain ⟨_, hn, hk, hkk⟩ := hx
  dsimp only at hn hk hkk
  unfold dropFTVC
  simp only [hd_iff, and_true, true_and, Nat.zero_add, Nat.add_zero, unit_ex, unit_all, true_implies, implies_true, Int.toNat_natCast, eq_self, and_self, eL, Nat.sub_zero]
  refine ⟨⟨s, key⟩, ⟨hn, hkk⟩, rfl, ⟨⟨rfl, fun q _ => rfl⟩, rfl⟩, fun h => .inl ⟨h, ?_, rfl, rfl, fun q _ => rfl⟩, fun y hy => .inr ⟨y, hy, ?_, rfl, rfl, fun q _ => rfl⟩⟩
  · simp
  · exact (decide_eq_true (by have := hy.1; dsimp only at this ⊢; omega)).symm
theorem setTFVC_true (x : SV) (hx : x.ok true) : setTFVC x := by
  obtain ⟨s, key, value⟩ := x
  have h0 := hx.1 rfl
  dsimp only at h0
  unfold setTFVC
  simp only [hd_iff, and_true, true_and, Nat.zero_add, Nat.add_zero, unit_ex, unit_all, true_implies, implies_true, Int.toNat_natCast, eq_self, and_self, eL, Nat.sub_zero]
  have hno : hadM s key = false := hadM_not fun q hq => by omega
  refine ⟨by omega, by omega, by omega, .inr ⟨0, ⟨hno, by omega⟩, by omega, by simp; omega, fun q hq => ?_⟩⟩
  obtain rfl : q = 0 := by omega
  rfl
theorem dropTFVC_true (x : SK) (hx : (SV.mk x.s x.key es).ok true) : dropTFVC x := by
  have h0 := hx.1 rfl
  dsimp only at h0
  unfold dropTFVC
  simp only [hd_iff, and_true, true_and, Nat.zero_add, Nat.add_zero, unit_ex, unit_all, true_implies, implies_true, Int.toNat_natCast, eq_self, and_self, eL, Nat.sub_zero]
  exact .inl (hadM_not fun q hq => by omega)
theorem setTTVC_true (x : SV) (hx : x.ok true) : setTTVC x := by
  obtain ⟨s, key, value⟩ := x
  have h0 := hx.1 rfl
  dsimp only at h0
  unfold setTTVC
  simp only [hd_iff, and_true, true_and, Nat.zero_add, Nat.add_zero, unit_ex, unit_all, true_implies, implies_true, Int.toNat_natCast, eq_self, and_self, eL, Nat.sub_zero]
  have hno : hadM s key = false := hadM_not fun q hq => by omega
  refine ⟨by omega, by omega, by omega, .inr ⟨0, ⟨hno, by omega⟩, by omega, by simp; omega, fun q hq => ?_⟩⟩
  obtain rfl : q = 0 := by omega
  rfl
theorem dropTTVC_true (x : SK) (hx : (SV.mk x.s x.key es).ok true) : dropTTVC x := by
  have h0 := hx.1 rfl
  dsimp only at h0
  unfold dropTTVC
  simp only [hd_iff, and_true, true_and, Nat.zero_add, Nat.add_zero, unit_ex, unit_all, true_implies, implies_true, Int.toNat_natCast, eq_self, and_self, eL, Nat.sub_zero]
  exact .inl (hadM_not fun q hq => by omega)
theorem placeA_ok : CtrOk Try.prog 68 placeA := det_end tt_ok mixed .nil anPlace 200 5 (fun _ => rfl) (fun _ => rfl) fun x hx => Eq.mp (placeAVC_ok x) (placeAVC_true x (hd_iff.1 hx))
theorem tblS_ok : TblOk Try.prog tblS := .cons (ctrT_ok placeA_ok) (.cons (ctrT_ok ins_ok) (.cons (ctrT_ok delP_ok) .nil))
theorem setFF_ok : CtrOk Try.prog 87 (setC false false) := ctr_endL tt_ok mixed tblS_ok (C := setC false false) anSet 200 6 (fun _ => rfl) (fun _ => ⟨fun _ => rfl, fun _ => rfl, trivial⟩) fun x hx => Eq.mp (setFFVC_ok x) (setFFVC_true x (hd_iff.1 hx))
theorem dropFF_ok : CtrOk Try.prog 89 (dropC false false) := ctr_endL tt_ok mixed tblS_ok (C := dropC false false) (fun _ => noAn) 200 6 (fun _ => rfl) (fun _ => ⟨fun _ => rfl, fun _ => rfl, trivial⟩) fun x hx => Eq.mp (dropFFVC_ok x) (dropFFVC_true x (hd_iff.1 hx))
theorem setFT_ok : CtrOk Try.prog 87 (setC false true) := ctr_endL tt_ok mixed tblS_ok (C := setC false true) anSet 200 6 (fun _ => rfl) (fun _ => ⟨fun _ => rfl, fun _ => rfl, trivial⟩) fun x hx => Eq.mp (setFTVC_ok x) (setFTVC_true x (hd_iff.1 hx))
theorem dropFT_ok : CtrOk Try.prog 89 (dropC false true) := ctr_endL tt_ok mixed tblS_ok (C := dropC false true) (fun _ => noAn) 200 6 (fun _ => rfl) (fun _ => ⟨fun _ => rfl, fun _ => rfl, trivial⟩) fun x hx => Eq.mp (dropFTVC_ok x) (dropFTVC_true x (hd_iff.1 hx))
theorem setTF_ok : CtrOk Try.prog 87 (setC true false) := ctr_endL tt_ok mixed .nil (C := setC true false) (fun _ => noAn) 200 6 (fun _ => rfl) (fun _ => ⟨fun _ => rfl, fun _ => rfl, trivial⟩) fun x hx => Eq.mp (setTFVC_ok x) (setTFVC_true x (hd_iff.1 hx))
theorem dropTF_ok : CtrOk Try.prog 89 (dropC true false) := ctr_endL tt_ok mixed .nil (C := dropC true false) (fun _ => noAn) 200 6 (fun _ => rfl) (fun _ => ⟨fun _ => rfl, fun _ => rfl, trivial⟩) fun x hx => Eq.mp (dropTFVC_ok x) (dropTFVC_true x (hd_iff.1 hx))
theorem setTT_ok : CtrOk Try.prog 87 (setC true true) := ctr_endL tt_ok mixed .nil (C := setC true true) (fun _ => noAn) 200 6 (fun _ => rfl) (fun _ => ⟨fun _ => rfl, fun _ => rfl, trivial⟩) fun x hx => Eq.mp (setTTVC_ok x) (setTTVC_true x (hd_iff.1 hx))
theorem dropTT_ok : CtrOk Try.prog 89 (dropC true true) := ctr_endL tt_ok mixed .nil (C := dropC true true) (fun _ => noAn) 200 6 (fun _ => rfl) (fun _ => ⟨fun _ => rfl, fun _ => rfl, trivial⟩) fun x hx => Eq.mp (dropTTVC_ok x) (dropTTVC_true x (hd_iff.1 hx))
end Go.Proofs.Ytjndgegfonhhfaa
end
section
/- What a call does to a store: contracts. -/
namespace Go.Proofs.Ytjndgegfonhhfaa
open Go SE
noncomputable section
def isNilA : AV → Bool
  | .lit (.slice none _ _) => true
  | _ => false
/-- By what of the store in work is none. -/
def shapeT (T : Bool → Bool → WTr) : WTr := fun args h K => match args with
  | .ptr i _ :: _ => match h.get i with
    | some (.cells _ (.av [p, q])) => T (isNilA p) (isNilA q) args h K
    | _ => False
  | _ => False
theorem shapeT_ok {P : Program} {f : FuncId} {T : Bool → Bool → WTr} (hT : ∀ a b args h K, T a b args h K → Sp P f args h K) (args : List AV) (h : Heap) (K : AV → Heap → Prop) (hq : shapeT T args h K) : Sp P f args h K := by
  unfold shapeT at hq
  split at hq
  · split at hq
    · exact hT _ _ _ _ _ hq
    · exact hq.elim
  · exact hq.elim
def setT : WTr := shapeT fun a b => ctrT (setC a b)
def dropT : WTr := shapeT fun a b => ctrT (dropC a b)
theorem setT_ok : ∀ args h K, setT args h K → Sp Try.prog 87 args h K := shapeT_ok fun a b => by
  cases a <;> cases b
  · exact ctrT_ok setFF_ok
  · exact ctrT_ok setFT_ok
  · exact ctrT_ok setTF_ok
  · exact ctrT_ok setTT_ok
theorem dropT_ok : ∀ args h K, dropT args h K → Sp Try.prog 89 args h K := shapeT_ok fun a b => by
  cases a <;> cases b
  · exact ctrT_ok dropFF_ok
  · exact ctrT_ok dropFT_ok
  · exact ctrT_ok dropTF_ok
  · exact ctrT_ok dropTT_ok
def stopT : WTr := fun _ _ _ => False
theorem stopT_ok {P : Program} {f : FuncId} (args : List AV) (h : Heap) (K : AV → Heap → Prop) (hq : stopT args h K) : Sp P f args h K := hq.elim
/-- A key's value. -/
def getA : Ctr := det SK (fun x => [.agg [.slR 0 0 2 x.s.n, .any], str x.key]) 1 (fun x => [.ro (rowP x.s)]) (fun x => Hd ((SV.mk x.s x.key es).ok false)) (fun x => .tup [str (getM x.s x.key), boo (hadM x.s x.key)]) 1 (fun x => [.ro (rowP x.s)])
def getN : Ctr := det BA (fun key => [.agg [nilS, .any], str key]) 0 (fun _ => []) (fun _ => True) (fun _ => .tup [str es, boo false]) 0 (fun _ => [])
def getT : WTr := fun args h K => match args with
  | .agg (p :: _) :: _ => bif isNilA p then ctrT getN args h K else ctrT getA args h K
  | _ => False
def softA (y : AV) : AV := .agg [.one, y, .one, .one, .one, .one]
def softS : AV := .agg [.one, .one]
def tblAp : WTbl := [(17, ctrT goodC), (55, ctrT copiedC), (93, orElseT (ctrT scanNC) (ctrT scanC)), (87, setT), (89, dropT), (36, getT)]
def appR (x : SC) (y : Bool) : Prop := (x.c.kind = 3 → y = hadM x.s x.c.key) ∧ (x.c.kind = 5 → y = decide (x.s.m ≠ 0))
def applyC (k : Int) : Ctr := { X := SC, args := fun x => [x.s.avZ 0 1, .agg [i64 k, str x.c.key, str x.c.value, str x.c.to, .slR 2 0 5 x.c.gn]], k := 3, os := SC.os, pre := fun x => Hd (x.ok ∧ x.c.kind = k ∧ goodM x.c = 0), outs := [
  { Y := Bool, post := fun x y => Hd (appR x y), ret := fun _ y => .tup [softS, softA (boo y)], m := 3, os := fun x _ => x.os }] }
/-! ### A group -/
def invH (x : SC) (c : Shf) (hit : Nat → Bool) (i : Nat) : Prop := c.n ≤ x.s.n + i ∧ c.m ≤ x.s.m + i ∧ (∀ k, k < c.n → (c.pk k).size ≤ 1500) ∧
  (∀ k', (∀ j, j < i → keyedM (x.c.g j).kind = true → eqB (x.c.g j).key k' = false) → hadM c k' = hadM x.s k') ∧ ∀ j, j < i → (x.c.g j).kind = 3 → hit j = hadM x.s (x.c.g j).key
def hitsO (hit : Nat → Bool) (n : Nat) : AObj := .room 4 (.row 1 n (fun q => [.bool (hit q)]) [])
def tblG : WTbl := [(17, ctrT goodC), (55, ctrT copiedC), (87, setT), (89, dropT), (85, stopT), (91, stopT), (93, stopT), (94, stopT)]
def slAt : AV → Nat
  | .slW i _ _ _ => i
  | _ => 0
/-- A slice as it was at the loop's entry, or another one. -/
def sameSl (fresh : Bool) (p p' : AV) : Bool := bif fresh then !isNilA p' && !Nat.beq (slAt p') (slAt p) else Nat.beq (slAt p') (slAt p)
def annTest (io ia : Nat) (fp fq : Bool) (p q : AV) : Fr → Heap → Bool := fun _ h => match h.get io, h.get ia with
  | some (.cells _ (.av [p', q'])), some (.cells _ (.av [_, _, _, _, v, _])) => sameSl fp p p' && sameSl fq q q' && !isNilA v
  | _, _ => true
def annG (x : SC) (io ia np nq nh nx : Nat) (gone : List (Nat × Option AObj)) (test : Fr → Heap → Bool) : Bool → Bool → LAnn
  | false, false => { σ := (Nat × Shf) × (Nat → Bool), fr := fun s => [(37, i64 s.1.1)], ob := fun s => [(io, some (cellO (.slW np 0 2 s.1.2.n) (.slW nq 0 1 s.1.2.m))), (ia, some (.cells 45 (.av [i64 0, boo false, str es, nilS, .slW nh 0 1 s.1.1, .lit (.int .u64 0)]))), (np, some (roomP s.1.2)), (nq, some (roomQ s.1.2)), (nh, some (hitsO s.2 s.1.1))] ++ gone, inv := fun s => 1 ≤ s.1.1 ∧ s.1.1 ≤ x.c.gn ∧ Hd (invH x s.1.2 s.2 s.1.1), meas := fun s => x.c.gn - s.1.1, nx := nx, test := test }
  | false, true => { σ := (Nat × Shf) × (Nat → Bool), fr := fun s => [(37, i64 s.1.1)], ob := fun s => [(io, some (cellO (.slW np 0 2 s.1.2.n) nilS)), (ia, some (.cells 45 (.av [i64 0, boo false, str es, nilS, .slW nh 0 1 s.1.1, .lit (.int .u64 0)]))), (np, some (roomP s.1.2)), (nh, some (hitsO s.2 s.1.1))] ++ gone, inv := fun s => 1 ≤ s.1.1 ∧ s.1.1 ≤ x.c.gn ∧ Hd (invH x s.1.2 s.2 s.1.1), meas := fun s => x.c.gn - s.1.1, nx := nx, test := test }
  | true, false => { σ := (Nat × Shf) × (Nat → Bool), fr := fun s => [(37, i64 s.1.1)], ob := fun s => [(io, some (cellO nilS (.slW nq 0 1 s.1.2.m))), (ia, some (.cells 45 (.av [i64 0, boo false, str es, nilS, .slW nh 0 1 s.1.1, .lit (.int .u64 0)]))), (nq, some (roomQ s.1.2)), (nh, some (hitsO s.2 s.1.1))] ++ gone, inv := fun s => s.1.2.n = 0 ∧ 1 ≤ s.1.1 ∧ s.1.1 ≤ x.c.gn ∧ Hd (invH x s.1.2 s.2 s.1.1), meas := fun s => x.c.gn - s.1.1, nx := nx, test := test }
  | true, true => { σ := (Nat × Shf) × (Nat → Bool), fr := fun s => [(37, i64 s.1.1)], ob := fun s => [(io, some (cellO nilS nilS)), (ia, some (.cells 45 (.av [i64 0, boo false, str es, nilS, .slW nh 0 1 s.1.1, .lit (.int .u64 0)]))), (nh, some (hitsO s.2 s.1.1))] ++ gone, inv := fun s => s.1.2.n = 0 ∧ 1 ≤ s.1.1 ∧ s.1.1 ≤ x.c.gn ∧ Hd (invH x s.1.2 s.2 s.1.1), meas := fun s => x.c.gn - s.1.1, nx := nx, test := test }
/-- By what is as it was, and what is fresh. -/
def annF (x : SC) (io ia N : Nat) (p q : AV) (fp fq : Bool) : LAnn :=
  annG x io ia (bif fp then N else slAt p) (bif fq then N + 1 else slAt q) (N + 2) 3 ((bif fp && !isNilA p then [(slAt p, none)] else []) ++ (bif fq && !isNilA q then [(slAt q, none)] else [])) (annTest io ia fp fq p q) (isNilA p && !fp) (isNilA q && !fq)
def annZ (x : SC) (ia : Nat) : LAnn := { σ := Unit, fr := fun _ => [(37, i64 0)], ob := fun _ => [], inv := fun _ => True, meas := fun _ => x.c.gn, test := fun _ h => match h.get ia with
  | some (.cells _ (.av [_, _, _, _, v, _])) => isNilA v
  | _ => true }
def anG (x : SC) : FuncId → Anns := fun f => bif Nat.beq f 18 then (fun b fr h => bif Nat.beq b 0 then (match h.get (idAt fr 6) with
    | some (.cells _ (.av [p, q])) => [annZ x (idAt fr 7), annF x (idAt fr 6) (idAt fr 7) h.next p q false false, annF x (idAt fr 6) (idAt fr 7) h.next p q false true, annF x (idAt fr 6) (idAt fr 7) h.next p q true false, annF x (idAt fr 6) (idAt fr 7) h.next p q true true]
    | _ => []) else []) else fun _ _ _ => []
def groupR (x : SC) (hit : Nat → Bool) : Prop := ∀ j, j < x.c.gn → (x.c.g j).kind = 3 → hit j = hadM x.s (x.c.g j).key
def applyG : Ctr := { X := SC, args := fun x => [x.s.avZ 0 1, .agg [i64 7, str x.c.key, str x.c.value, str x.c.to, .slR 2 0 5 x.c.gn]], k := 3, os := SC.os, pre := fun x => Hd (x.ok ∧ x.c.kind = 7 ∧ goodM x.c = 0), outs := [
  { Y := Nat → Bool, post := fun x y => Hd (groupR x y), ret := fun x _ => .tup [softS, .agg [.one, .one, .one, .one, .slW 3 0 1 x.c.gn, .one]], m := 4, os := fun x y => x.os ++ [hitsO y x.c.gn] }] }
end
end Go.Proofs.Ytjndgegfonhhfaa
end
section
/- CostBlocks: contracts, and how many blocks a group writes. -/
namespace Go.Proofs.Ytjndgegfonhhfaa
open Go SE
noncomputable section
/-- What a call does to a store, of a good call of any kind. -/
def applyL : Ctr := { X := SC, args := fun x => [x.s.avZ 0 1, x.c.av 2], k := 3, os := SC.os, pre := fun x => Hd (x.ok ∧ goodM x.c = 0), outs := [
  { Y := Bool, post := fun x y => Hd (x.c.kind ≠ 7 ∧ appR x y), ret := fun _ y => .tup [softS, softA (boo y)], m := 3, os := fun x _ => x.os },
  { Y := Nat → Bool, post := fun x y => Hd (x.c.kind = 7 ∧ groupR x y), ret := fun x _ => .tup [softS, .agg [.one, .one, .one, .one, .slW 3 0 1 x.c.gn, .one]], m := 4, os := fun x y => x.os ++ [hitsO y x.c.gn] }] }
theorem mem_kinds {c : Cll} (hg : goodM c = 0) (h7 : c.kind = 7) : 1 ≤ c.gn ∧ c.gn ≤ 3 ∧ ∀ i, i < c.gn → memOk c.g i = true := by
  unfold goodM at hg
  cases hs : shapeM c with
  | false => rw [hs] at hg; simp at hg
  | true =>
    unfold shapeM at hs
    simp only [Bool.and_eq_true, Bool.or_eq_true, decide_eq_true_eq] at hs
    rcases hs.2 with h | h
    · exact absurd h7 h
    · exact h
theorem grouped_iff {k : Int} (h : groupedM k = true) : k = 2 ∨ k = 3 ∨ k = 4 := by
  unfold groupedM at h
  simp only [Bool.or_eq_true, decide_eq_true_eq] at h
  omega
theorem mem_kind {g : Nat → Mem} {i : Nat} (h : memOk g i = true) : (g i).kind = 2 ∨ (g i).kind = 3 ∨ (g i).kind = 4 := by
  unfold memOk at h
  simp only [Bool.and_eq_true] at h
  exact grouped_iff h.1.1
theorem kind_of {c : Cll} (h : goodM c = 0) : 1 ≤ c.kind ∧ c.kind ≤ 8 := by
  unfold goodM at h
  cases hs : shapeM c with
  | false => rw [hs] at h; simp at h
  | true =>
    unfold shapeM at hs
    simp only [Bool.and_eq_true] at hs
    exact of_decide_eq_true hs.1.1
/-- Which of a group's keys are there. -/
def hitM (x : SC) (j : Nat) : Bool := hadM x.s (x.c.g j).key
def writesB (c : Cll) (hit : Nat → Bool) (j : Nat) : Bool := decide ((c.g j).kind ≠ 3) || hit j
def anBlocks (x : SC) : FuncId → Anns := fun f => bif Nat.beq f 5 then (fun b _ _ => bif Nat.beq b 1 then
  [{ σ := Nat, fr := fun i => [(9, i64 i), (8, i64 (cntM (writesB x.c (hitM x)) i : Nat))], ob := fun _ => [], inv := fun i => i ≤ x.c.gn, meas := fun i => x.c.gn - i }] else []) else fun _ _ _ => []
def tblB : WTbl := [(9, ctrT greatC), (10, ctrT weightC), (16, ctrT mayC), (17, ctrT goodC), (12, ctrT callC), (18, ctrT applyL), (11, awakeT)]
end
end Go.Proofs.Ytjndgegfonhhfaa
end
section
/- What is asked of CostBlocks. -/
namespace Go.Proofs.Ytjndgegfonhhfaa
open Go SE
def costBlocksVC_wp (x : SC) : Prop := wpF Try.prog tblB tt (anBlocks x) 200 5 5 [x.s.avZ 0 1, x.c.av 2] (hO 3 x.os) (fun v h' => endP 3 (.lit (.bool true)) x.os v h')
def costBlocksVC_1 (x : SC) : Prop := ((((rowP x.s) = (rowP x.s)) ∧ (Bool.true = Bool.true)) ∧ ((((@rowQ x.s) = (@rowQ x.s)) ∧ (Bool.true = Bool.true)) ∧ ((((rowG x.c) = (rowG x.c)) ∧ (Bool.true = Bool.true)) ∧ True)))
def costBlocksVC_2 (x : SC) (x_5 : @SC) : Prop := ((((@Cst.s0 (@callM x_5.s x_5.c)) = (@Cst.s0 (@callM x_5.s x_5.c))) ∧ (((@Cst.s1 (@callM x_5.s x_5.c)) = (@Cst.s1 (@callM x_5.s x_5.c))) ∧ (((@Cst.s2 (@callM x_5.s x_5.c)) = (@Cst.s2 (@callM x_5.s x_5.c))) ∧ (((@Cst.s3 (@callM x_5.s x_5.c)) = (@Cst.s3 (@callM x_5.s x_5.c))) ∧ (((@Cst.s4 (@callM x_5.s x_5.c)) = (@Cst.s4 (@callM x_5.s x_5.c))) ∧ (((@Cst.s5 (@callM x_5.s x_5.c)) = (@Cst.s5 (@callM x_5.s x_5.c))) ∧ True)))))) ∧ (((x.c.kind = x.c.kind) ∧ ((x.c.key = x.c.key) ∧ ((x.c.value = x.c.value) ∧ ((x.c.to = x.c.to) ∧ (((0 = 0) ∧ (x.c.gn = x.c.gn)) ∧ True))))) ∧ ((((x.s.zp = x.s.zp) ∧ ((0 = 0) ∧ (x.s.n = x.s.n))) ∧ (((x.s.zq = x.s.zq) ∧ ((0 = 0) ∧ (x.s.m = x.s.m))) ∧ True)) ∧ ((((rowG x.c) = (rowG x.c)) ∧ (Bool.true = Bool.true)) ∧ ((((@rowQ x.s) = (@rowQ x.s)) ∧ (Bool.true = Bool.true)) ∧ ((((rowP x.s) = (rowP x.s)) ∧ (Bool.true = Bool.true)) ∧ True))))))
def costBlocksVC_3 (x : SC) (x_6 : @SC) (y_5 : (∀ (a : Nat), Bool)) : Prop := ((x_6.c.gn = x_6.c.gn) ∧ (∀ (q : Nat), ((q < x_6.c.gn) → ([(Value.bool (y_5 q))] = [(Value.bool (y_5 q))]))))
def costBlocksVC_4 (x : SC) (x_6 : @SC) : Prop := (True ∧ (True ∧ (True ∧ (True ∧ (((0 = 0) ∧ (x_6.c.gn = x_6.c.gn)) ∧ (True ∧ True))))))
def costBlocksVC_5 (x : SC) (s : Nat) (s_1 : Nat) : Prop := ((((s_1 : Nat) : Int) = (((s : Nat) : Int) + (1 : Int))) ∧ (((((@cntM (@writesB x.c (@hitM x)) s_1) : Nat) : Int) = ((((@cntM (@writesB x.c (@hitM x)) s) : Nat) : Int) + (1 : Int))) ∧ True))
def costBlocksVC_10 (x : SC) : Prop := ((Bool.true = Bool.false) ∧ (costBlocksVC_1 x))
def costBlocksVC_11 (x : SC) : Prop := ((Bool.true = Bool.true) ∧ (costBlocksVC_1 x))
def costBlocksVC_6 (x : SC) (x_5 : @SC) : Prop := ((I64 ((@Cst.s4 (@callM x_5.s x_5.c)) + (1 : Int))) ∧ (cP (BEq.beq (@Cst.s1 (@callM x_5.s x_5.c)) ((@Cst.s4 (@callM x_5.s x_5.c)) + (1 : Int))) (cP (@BEq.beq Bool (@instBEqOfDecidableEq Bool @instDecidableEqBool) Bool.false (BEq.beq (@Cst.s1 (@callM x_5.s x_5.c)) (0 : Int))) (cP (BEq.beq (@Cst.s2 (@callM x_5.s x_5.c)) (0 : Int)) (cP (BEq.beq (@Cst.s3 (@callM x_5.s x_5.c)) (0 : Int)) (cP (@BEq.beq Bool (@instBEqOfDecidableEq Bool @instDecidableEqBool) (decide (@GT.gt Int @Int.instLTInt (@Cst.s0 (@callM x_5.s x_5.c)) (0 : Int))) (bne x.c.kind (8 : Int))) (costBlocksVC_11 x) (costBlocksVC_10 x)) (costBlocksVC_10 x)) (costBlocksVC_10 x)) (costBlocksVC_10 x)) (costBlocksVC_10 x)))
def costBlocksVC_7 (x : SC) (x_5 : @SC) : Prop := ((I64 ((@Cst.s4 (@callM x_5.s x_5.c)) + (0 : Int))) ∧ (cP (BEq.beq (@Cst.s1 (@callM x_5.s x_5.c)) ((@Cst.s4 (@callM x_5.s x_5.c)) + (0 : Int))) (cP (@BEq.beq Bool (@instBEqOfDecidableEq Bool @instDecidableEqBool) Bool.true (BEq.beq (@Cst.s1 (@callM x_5.s x_5.c)) (0 : Int))) (cP (BEq.beq (@Cst.s2 (@callM x_5.s x_5.c)) (0 : Int)) (cP (BEq.beq (@Cst.s3 (@callM x_5.s x_5.c)) (0 : Int)) (cP (@BEq.beq Bool (@instBEqOfDecidableEq Bool @instDecidableEqBool) (decide (@GT.gt Int @Int.instLTInt (@Cst.s0 (@callM x_5.s x_5.c)) (0 : Int))) (bne x.c.kind (8 : Int))) (costBlocksVC_11 x) (costBlocksVC_10 x)) (costBlocksVC_10 x)) (costBlocksVC_10 x)) (costBlocksVC_10 x)) (costBlocksVC_10 x)))
def costBlocksVC_8 (x : SC) (s : Nat) (x_5 : @SC) : Prop := ((I64 ((@Cst.s4 (@callM x_5.s x_5.c)) + (((@cntM (@writesB x.c (@hitM x)) s) : Nat) : Int))) ∧ (cP (BEq.beq (@Cst.s1 (@callM x_5.s x_5.c)) ((@Cst.s4 (@callM x_5.s x_5.c)) + (((@cntM (@writesB x.c (@hitM x)) s) : Nat) : Int))) (cP (@BEq.beq Bool (@instBEqOfDecidableEq Bool @instDecidableEqBool) (BEq.beq (((@cntM (@writesB x.c (@hitM x)) s) : Nat) : Int) (0 : Int)) (BEq.beq (@Cst.s1 (@callM x_5.s x_5.c)) (0 : Int))) (cP (BEq.beq (@Cst.s2 (@callM x_5.s x_5.c)) (0 : Int)) (cP (BEq.beq (@Cst.s3 (@callM x_5.s x_5.c)) (0 : Int)) (cP (@BEq.beq Bool (@instBEqOfDecidableEq Bool @instDecidableEqBool) (decide (@GT.gt Int @Int.instLTInt (@Cst.s0 (@callM x_5.s x_5.c)) (0 : Int))) (bne x.c.kind (8 : Int))) (costBlocksVC_11 x) (costBlocksVC_10 x)) (costBlocksVC_10 x)) (costBlocksVC_10 x)) (costBlocksVC_10 x)) (costBlocksVC_10 x)))
def costBlocksVC_9 (x : SC) (x_5 : @SC) (x_6 : @SC) (y_5 : (∀ (a : Nat), Bool)) : Prop := ((costBlocksVC_4 x x_6) ∧ ((True ∧ (True ∧ True)) ∧ ((costBlocksVC_3 x x_6 y_5) ∧ (costBlocksVC_2 x x_5))))
def costBlocksVC (x : SC) : Prop :=
  (∃ (x_1 : @Shf), (True ∧ (((((0 = 0) ∧ (x_1.n = x.s.n)) ∧ (((0 = 0) ∧ (x_1.m = x.s.m)) ∧ True)) ∧ True) ∧ ((((x_1.n = x.s.n) ∧ (∀ (q : Nat), ((q < x_1.n) → ([(Value.string (@Shf.pk x_1 q)), (Value.string (@Shf.pv x_1 q))] = [(Value.string (@Shf.pk x.s q)), (Value.string (@Shf.pv x.s q))])))) ∧ (((x_1.m = x.s.m) ∧ (∀ (q : Nat), ((q < x_1.m) → ([(Value.string (@Shf.qv x_1 q))] = [(Value.string (@Shf.qv x.s q))])))) ∧ True)) ∧ (∀ (y : Bool), ((Hd ((y = Bool.false) → x_1.small)) → (cP y (costBlocksVC_11 x) (∃ (x_2 : Cll), (True ∧ ((((x_2.kind = x.c.kind) ∧ ((x_2.key = x.c.key) ∧ ((x_2.value = x.c.value) ∧ ((x_2.to = x.c.to) ∧ (((0 = 0) ∧ (x_2.gn = x.c.gn)) ∧ True))))) ∧ (((1500 : Int) = (1500 : Int)) ∧ True)) ∧ ((((x_2.gn = x.c.gn) ∧ (∀ (q : Nat), ((q < x_2.gn) → ([(Value.int IntKind.i64 (Mem.kind (Cll.g x_2 q))), (Value.string (Mem.key (Cll.g x_2 q))), (Value.string (Mem.value (Cll.g x_2 q))), (Value.string (Mem.to (Cll.g x_2 q))), (Value.slice (Mem.gp (Cll.g x_2 q)) (Mem.gn (Cll.g x_2 q)) (Mem.gc (Cll.g x_2 q)))] = [(Value.int IntKind.i64 (Mem.kind (Cll.g x.c q))), (Value.string (Mem.key (Cll.g x.c q))), (Value.string (Mem.value (Cll.g x.c q))), (Value.string (Mem.to (Cll.g x.c q))), (Value.slice (Mem.gp (Cll.g x.c q)) (Mem.gn (Cll.g x.c q)) (Mem.gc (Cll.g x.c q)))])))) ∧ True) ∧ (∀ (y_1 : Int), ((Hd ((y_1 ≤ (1500 : Int)) → x_2.small)) → (cP (decide (@GT.gt Int @Int.instLTInt y_1 (1500 : Int))) (costBlocksVC_11 x) (∃ (x_3 : @Shf), ((Hd x_3.small) ∧ (((((0 = 0) ∧ (x_3.n = x.s.n)) ∧
 (((0 = 0) ∧ (x_3.m = x.s.m)) ∧ True)) ∧ True) ∧ ((((x_3.n = x.s.n) ∧ (∀ (q : Nat), ((q < x_3.n) → ([(Value.string (@Shf.pk x_3 q)), (Value.string (@Shf.pv x_3 q))] = [(Value.string (@Shf.pk x.s q)), (Value.string (@Shf.pv x.s q))])))) ∧ (((x_3.m = x.s.m) ∧ (∀ (q : Nat), ((q < x_3.m) → ([(Value.string (@Shf.qv x_3 q))] = [(Value.string (@Shf.qv x.s q))])))) ∧ True)) ∧ (∀ (y_2 : Unit), (True → (cP (@Bool.not (@mayM x_3)) (costBlocksVC_11 x) (∃ (x_4 : Cll), ((Hd x_4.small) ∧ ((((x_4.kind = x.c.kind) ∧ ((x_4.key = x.c.key) ∧ ((x_4.value = x.c.value) ∧ ((x_4.to = x.c.to) ∧ (((0 = 0) ∧ (x_4.gn = x.c.gn)) ∧ True))))) ∧ True) ∧ ((((x_4.gn = x.c.gn) ∧ (∀ (q : Nat), ((q < x_4.gn) → ([(Value.int IntKind.i64 (Mem.kind (Cll.g x_4 q))), (Value.string (Mem.key (Cll.g x_4 q))), (Value.string (Mem.value (Cll.g x_4 q))), (Value.string (Mem.to (Cll.g x_4 q))), (Value.slice (Mem.gp (Cll.g x_4 q)) (Mem.gn (Cll.g x_4 q)) (Mem.gc (Cll.g x_4 q)))] = [(Value.int IntKind.i64 (Mem.kind (Cll.g x.c q))), (Value.string (Mem.key (Cll.g x.c q))), (Value.string (Mem.value (Cll.g x.c q))), (Value.string (Mem.to (Cll.g x.c q))), (Value.slice (Mem.gp (Cll.g x.c q)) (Mem.gn (Cll.g x.c q)) (Mem.gc (Cll.g x.c q)))])))) ∧ True) ∧ (∀ (y_3 : Unit), (True → (cP (bne (goodM x_4) (0 : Int)) (costBlocksVC_11 x) (∃ (x_5 : @SC), ((Hd x_5.ok) ∧ (((((x_5.s.zp = x.s.zp) ∧ ((0 = 0) ∧ (x_5.s.n = x.s.n))) ∧ (((x_5.s.zq = x.s.zq) ∧ ((0 = 0) ∧ (x_5.s.m = x.s.m))) ∧ True)) ∧ (((x_5.c.kind = x.c.kind) ∧ ((x_5.c.key = x.c.key) ∧ ((x_5.c.value = x.c.value) ∧
 ((x_5.c.to = x.c.to) ∧ (((0 = 0) ∧ (x_5.c.gn = x.c.gn)) ∧ True))))) ∧ True)) ∧ ((((x_5.s.n = x.s.n) ∧ (∀ (q : Nat), ((q < x_5.s.n) → ([(Value.string (@Shf.pk x_5.s q)), (Value.string (@Shf.pv x_5.s q))] = [(Value.string (@Shf.pk x.s q)), (Value.string (@Shf.pv x.s q))])))) ∧ (((x_5.s.m = x.s.m) ∧ (∀ (q : Nat), ((q < x_5.s.m) → ([(Value.string (@Shf.qv x_5.s q))] = [(Value.string (@Shf.qv x.s q))])))) ∧ (((x_5.c.gn = x.c.gn) ∧ (∀ (q : Nat), ((q < x_5.c.gn) → ([(Value.int IntKind.i64 (Mem.kind (Cll.g x_5.c q))), (Value.string (Mem.key (Cll.g x_5.c q))), (Value.string (Mem.value (Cll.g x_5.c q))), (Value.string (Mem.to (Cll.g x_5.c q))), (Value.slice (Mem.gp (Cll.g x_5.c q)) (Mem.gn (Cll.g x_5.c q)) (Mem.gc (Cll.g x_5.c q)))] = [(Value.int IntKind.i64 (Mem.kind (Cll.g x.c q))), (Value.string (Mem.key (Cll.g x.c q))), (Value.string (Mem.value (Cll.g x.c q))), (Value.string (Mem.to (Cll.g x.c q))), (Value.slice (Mem.gp (Cll.g x.c q)) (Mem.gn (Cll.g x.c q)) (Mem.gc (Cll.g x.c q)))])))) ∧ True))) ∧ (∀ (y_4 : Unit), (True → (∃ (x_6 : @SC), ((Hd (x_6.ok ∧ ((goodM x_6.c) = (0 : Int)))) ∧ (((((x_6.s.zp = x.s.zp) ∧ ((0 = 0) ∧ (x_6.s.n = x.s.n))) ∧ (((x_6.s.zq = x.s.zq) ∧ ((0 = 0) ∧ (x_6.s.m = x.s.m))) ∧ True)) ∧ (((x_6.c.kind = x.c.kind) ∧ ((x_6.c.key = x.c.key) ∧ ((x_6.c.value = x.c.value) ∧ ((x_6.c.to = x.c.to) ∧ (((0 = 0) ∧ (x_6.c.gn = x.c.gn)) ∧ True))))) ∧ True)) ∧ ((((x_6.s.n = x.s.n) ∧ (∀ (q : Nat), ((q < x_6.s.n) → ([(Value.string (@Shf.pk x_6.s q)), (Value.string (@Shf.pv x_6.s q))] = [(Value.string (@Shf.pk x.s q)), (Value.string (@Shf.pv x.s q))])))) ∧
 (((x_6.s.m = x.s.m) ∧ (∀ (q : Nat), ((q < x_6.s.m) → ([(Value.string (@Shf.qv x_6.s q))] = [(Value.string (@Shf.qv x.s q))])))) ∧ (((x_6.c.gn = x.c.gn) ∧ (∀ (q : Nat), ((q < x_6.c.gn) → ([(Value.int IntKind.i64 (Mem.kind (Cll.g x_6.c q))), (Value.string (Mem.key (Cll.g x_6.c q))), (Value.string (Mem.value (Cll.g x_6.c q))), (Value.string (Mem.to (Cll.g x_6.c q))), (Value.slice (Mem.gp (Cll.g x_6.c q)) (Mem.gn (Cll.g x_6.c q)) (Mem.gc (Cll.g x_6.c q)))] = [(Value.int IntKind.i64 (Mem.kind (Cll.g x.c q))), (Value.string (Mem.key (Cll.g x.c q))), (Value.string (Mem.value (Cll.g x.c q))), (Value.string (Mem.to (Cll.g x.c q))), (Value.slice (Mem.gp (Cll.g x.c q)) (Mem.gn (Cll.g x.c q)) (Mem.gc (Cll.g x.c q)))])))) ∧ True))) ∧ ((∀ (y_5 : Bool), ((Hd ((@Ne Int x_6.c.kind (7 : Int)) ∧ (@appR x_6 y_5))) → (cP (BEq.beq x.c.kind (2 : Int)) (costBlocksVC_6 x x_5) (cP (BEq.beq x.c.kind (4 : Int)) (costBlocksVC_6 x x_5) (cP (BEq.beq x.c.kind (3 : Int)) (cP y_5 (costBlocksVC_6 x x_5) (costBlocksVC_7 x x_5)) (cP (BEq.beq x.c.kind (5 : Int)) (cP y_5 (costBlocksVC_6 x x_5) (costBlocksVC_7 x x_5)) (cP (BEq.beq x.c.kind (7 : Int)) ((∃ (s : Nat), ((s ≤ x.c.gn) ∧ (True ∧ (((((s : Nat) : Int) = (0 : Int)) ∧ (((((@cntM (@writesB x.c (@hitM x)) s) : Nat) : Int) = (0 : Int)) ∧ True)) ∧ ((True ∧ ((y_5 = y_5) ∧ (True ∧ (True ∧ (True ∧ (True ∧ True)))))) ∧ ((True ∧ (True ∧ True)) ∧ (costBlocksVC_2 x x_5))))))) ∧ ((∀ (s : Nat), ((s ≤ x.c.gn) → (cP (decide (((s : Nat) : Int) < ((x.c.gn : Nat) : Int))) False (costBlocksVC_8 x s x_5)))) ∧
 True)) (costBlocksVC_7 x x_5)))))))) ∧ (∀ (y_5 : (∀ (a : Nat), Bool)), ((Hd ((x_6.c.kind = (7 : Int)) ∧ (@groupR x_6 y_5))) → (cP (BEq.beq x.c.kind (2 : Int)) (costBlocksVC_6 x x_5) (cP (BEq.beq x.c.kind (4 : Int)) (costBlocksVC_6 x x_5) (cP (BEq.beq x.c.kind (3 : Int)) False (cP (BEq.beq x.c.kind (5 : Int)) False (cP (BEq.beq x.c.kind (7 : Int)) ((∃ (s : Nat), ((s ≤ x.c.gn) ∧ (True ∧ (((((s : Nat) : Int) = (0 : Int)) ∧ (((((@cntM (@writesB x.c (@hitM x)) s) : Nat) : Int) = (0 : Int)) ∧ True)) ∧ (costBlocksVC_9 x x_5 x_6 y_5))))) ∧ ((∀ (s : Nat), ((s ≤ x.c.gn) → (cP (decide (((s : Nat) : Int) < ((x.c.gn : Nat) : Int))) (cP (decide (((s : Nat) : Int) < ((x_6.c.gn : Nat) : Int))) ((((0 : Int) ≤ ((s : Nat) : Int)) ∧ (((s : Nat) : Int) < ((x.c.gn : Nat) : Int))) ∧ (((0 + s) < x.c.gn) ∧ (cP (bne (Mem.kind (Cll.g x.c (0 + s))) (3 : Int)) ((I64 ((((@cntM (@writesB x.c (@hitM x)) s) : Nat) : Int) + (1 : Int))) ∧ ((I64 (((s : Nat) : Int) + (1 : Int))) ∧ (∃ (s_1 : Nat), ((s_1 ≤ x.c.gn) ∧ (((x.c.gn - s_1) < (x.c.gn - s)) ∧ ((costBlocksVC_5 x s s_1) ∧ (costBlocksVC_9 x x_5 x_6 y_5))))))) ((((0 : Int) ≤ ((s : Nat) : Int)) ∧ (((s : Nat) : Int) < ((x_6.c.gn : Nat) : Int))) ∧ (((0 + s) < x_6.c.gn) ∧ (cP (y_5 (0 + s)) ((I64 ((((@cntM (@writesB x.c (@hitM x)) s) : Nat) : Int) + (1 : Int))) ∧ ((I64 (((s : Nat) : Int) + (1 : Int))) ∧ (∃ (s_1 : Nat), ((s_1 ≤ x.c.gn) ∧ (((x.c.gn - s_1) < (x.c.gn - s)) ∧ ((costBlocksVC_5 x s s_1) ∧ (costBlocksVC_9 x x_5 x_6 y_5))))))) ((I64 (((s : Nat) : Int) + (1 : Int))) ∧
 (∃ (s_1 : Nat), ((s_1 ≤ x.c.gn) ∧ (((x.c.gn - s_1) < (x.c.gn - s)) ∧ (((((s_1 : Nat) : Int) = (((s : Nat) : Int) + (1 : Int))) ∧ (((((@cntM (@writesB x.c (@hitM x)) s_1) : Nat) : Int) = (((@cntM (@writesB x.c (@hitM x)) s) : Nat) : Int)) ∧ True)) ∧ (costBlocksVC_9 x x_5 x_6 y_5)))))))))))) (costBlocksVC_8 x s x_5)) (costBlocksVC_8 x s x_5)))) ∧ True)) (costBlocksVC_7 x x_5)))))))))))))))))))))))))))))))))))))))))))))))
theorem costBlocksVC_ok (x : SC) : costBlocksVC x = costBlocksVC_wp x := by kernel_rfl
end Go.Proofs.Ytjndgegfonhhfaa
end
section
/- CostBlocks: what a call's costs have to do with each other. -/
namespace Go.Proofs.Ytjndgegfonhhfaa
open Go SE
theorem lines_b (n : Int) : 0 ≤ linesM n ∧ linesM n ≤ 8 := by
  unfold linesM spanM
  generalize needM n = c
  by_cases h0 : c = 0 <;> by_cases h1 : c = 1 <;> by_cases h2 : c = 2 <;> by_cases h3 : c = 3 <;> simp [h0, h1, h2, h3]
theorem find_b (s : Shf) (key : BA) (h : s.n ≤ 40) : 1 ≤ findM s key ∧ findM s key ≤ 41 := by
  unfold findM
  have := cntM_le (nearM s key) s.n
  omega
theorem held_add {a b : Int} (ha : 0 ≤ a) (hb : 0 ≤ b) (h : a + b ≤ 1000) : Cst.heldM a b = a + b := by
  unfold Cst.heldM Cst.maxCost imin imax
  grind
theorem part_b (s : Shf) (kind : Int) (key value : BA) (e : Int) (hn : s.n ≤ 40) (hk : kind = 2 ∨ kind = 3 ∨ kind = 4) (he : 0 ≤ e ∧ e ≤ 1) :
    (partM s kind key value e).s2 = 0 ∧ (partM s kind key value e).s3 = 0 ∧ 0 ≤ (partM s kind key value e).s4 ∧ (partM s kind key value e).s4 ≤ 8 * b2i (decide (kind ≠ 3) || hadM s key) ∧ (partM s kind key value e).s1 = (partM s kind key value e).s4 + b2i (decide (kind ≠ 3) || hadM s key) ∧ 0 < (partM s kind key value e).s0 ∧ (partM s kind key value e).s0 ≤ 60 := by
  obtain ⟨l1, l2⟩ := lines_b ((key.size : Int) + (value.size : Int))
  obtain ⟨m1, m2⟩ := lines_b (value.size : Nat)
  obtain ⟨f1, f2⟩ := find_b s key hn
  rcases hk with rfl | rfl | rfl
  · simp [partM, b2i]; omega
  · cases hh : hadM s key with
    | true => simp [partM, b2i, hh]; omega
    | false => simp [partM, b2i, hh]; omega
  · simp [partM, b2i]; omega
theorem b2i_cnt (p : Nat → Bool) (i : Nat) : ((cntM p (i + 1) : Nat) : Int) = (cntM p i : Nat) + b2i (p i) := by
  simp only [cntM, b2i]
  cases p i <;> simp
theorem group_b (s : Shf) (g : Nat → Mem) (hit : Nat → Bool) (hn : s.n ≤ 40) : ∀ i, i ≤ 3 → (∀ j, j < i → ((g j).kind = 2 ∨ (g j).kind = 3 ∨ (g j).kind = 4) ∧ ((g j).kind = 3 → hit j = hadM s (g j).key)) →
    (groupTo s g i).s2 = 0 ∧ (groupTo s g i).s3 = 0 ∧ 0 ≤ (groupTo s g i).s4 ∧ (groupTo s g i).s4 ≤ 8 * (cntM (fun j => decide ((g j).kind ≠ 3) || hit j) i : Nat) ∧ (groupTo s g i).s1 = (groupTo s g i).s4 + (cntM (fun j => decide ((g j).kind ≠ 3) || hit j) i : Nat) ∧ 3 ≤ (groupTo s g i).s0 ∧ (groupTo s g i).s0 ≤ 3 + 60 * i
  | 0, _, _ => by simp [groupTo, cntM]
  | i + 1, hi, h => by
    obtain ⟨a1, a2, a3, a4, a5, a6, a7⟩ := group_b s g hit hn i (by omega) (fun j hj => h j (by omega))
    obtain ⟨hk, hh⟩ := h i (by omega)
    obtain ⟨b1, b2, b3, b4, b5, b6, b7⟩ := part_b s (g i).kind (g i).key (g i).value 0 hn hk (by omega)
    have hc := cntM_le (fun j => decide ((g j).kind ≠ 3) || hit j) i
    have e : (decide ((g i).kind ≠ 3) || hit i) = (decide ((g i).kind ≠ 3) || hadM s (g i).key) := by
      by_cases h3 : (g i).kind = 3
      · rw [hh h3]
      · simp [h3]
    have hb : 0 ≤ b2i (decide ((g i).kind ≠ 3) || hadM s (g i).key) ∧ b2i (decide ((g i).kind ≠ 3) || hadM s (g i).key) ≤ 1 := by
      unfold b2i; cases (decide ((g i).kind ≠ 3) || hadM s (g i).key) <;> simp
    rw [b2i_cnt, e]
    simp only [groupTo, Cst.add]
    generalize groupTo s g i = G at *
    generalize partM s (g i).kind (g i).key (g i).value 0 = Q at *
    rw [held_add (by omega) (by omega) (by omega), held_add (by omega) (by omega) (by omega), held_add (by omega) (by omega) (by omega), held_add (by omega) (by omega) (by omega), held_add (by omega) (by omega) (by omega)]
    refine ⟨by omega, by omega, by omega, by omega, by omega, by omega, by omega⟩
/-- How many blocks a single call writes. -/
def nOf (k : Int) (y : Bool) : Int := bif decide (k = 2) || decide (k = 4) then 1 else bif decide (k = 3) || decide (k = 5) then b2i y else 0
/-- What is asked of costs. -/
def fitB (x : Cst) (n k : Int) : Prop := x.s1 = x.s4 + n ∧ (n = 0 ↔ x.s1 = 0) ∧ x.s2 = 0 ∧ x.s3 = 0 ∧ (0 < x.s0 ↔ k ≠ 8) ∧ 0 ≤ x.s4 ∧ x.s4 ≤ 100 ∧ 0 ≤ n ∧ n ≤ 3
theorem skN_ge (lv : Nat → Int) (level : Int) (a0 : Nat) (n0 : Int) : ∀ j, n0 ≤ skN lv level a0 n0 j
  | 0 => by simp [skN]
  | j + 1 => by
    have := skN_ge lv level a0 n0 j
    simp only [skN]
    cases decide (level ≤ lv (a0 + j)) <;> simp <;> omega
theorem skS_pos (s : Shf) (key : BA) : ∀ k, 0 ≤ (skS s key k).1
  | 0 => by simp [skS]
  | k + 1 => by
    have h1 := skS_pos s key k
    simp only [skS, skNx]
    have := skN_ge (fun i => levelM (s.pk i)) (4 - k) (skS s key k).2 ((skS s key k).1 + 1) (skJ s key (skS s key k).2)
    omega
theorem seek_pos (s : Shf) (key : BA) : 0 ≤ seekM s key := skS_pos s key 4
theorem scan_pos (s : Shf) (key to : BA) (x0 : Int) : ∀ i, x0 ≤ scanTo s key to x0 i
  | 0 => by simp [scanTo]
  | i + 1 => by
    have := scan_pos s key to x0 i
    have := (lines_b (((s.pk i).size : Int) + ((s.pv i).size : Int))).1
    simp only [scanTo]
    cases inM s key to i <;> simp <;> omega
theorem fit_one (x : SC) (hx : x.ok) (hm : mayM x.s = true) (hg : goodM x.c = 0) (h7 : x.c.kind ≠ 7) (y : Bool) (hy : appR x y) : fitB (callM x.s x.c) (nOf x.c.kind y) x.c.kind := by
  obtain ⟨k1, k2⟩ := kind_of hg
  have hn : x.s.n ≤ 40 := hx.1.1
  have hk : x.c.kind = 1 ∨ x.c.kind = 2 ∨ x.c.kind = 3 ∨ x.c.kind = 4 ∨ x.c.kind = 5 ∨ x.c.kind = 6 ∨ x.c.kind = 8 := by omega
  unfold fitB callM nOf
  rw [hm, hg]
  simp only [decide_true, cond_true]
  have pt : (x.c.kind = 2 ∨ x.c.kind = 3 ∨ x.c.kind = 4) → _ := fun h => part_b x.s x.c.kind x.c.key x.c.value 1 hn h (by omega)
  rcases hk with h | h | h | h | h | h | h
  · obtain ⟨f1, f2⟩ := find_b x.s x.c.key hn
    have l1 := (lines_b ((x.c.key.size : Int) + ((x.s.pv (placeM x.s x.c.key)).size : Int))).1
    rw [h]
    cases hh : hadM x.s x.c.key <;> simp <;> omega
  · obtain ⟨b1, b2, b3, b4, b5, b6, b7⟩ := pt (.inl h)
    rw [h] at *
    simp [two, b2i] at *
    omega
  · obtain ⟨b1, b2, b3, b4, b5, b6, b7⟩ := pt (.inr (.inl h))
    have hy := hy.1 h
    rw [h] at *
    subst hy
    simp [two, b2i] at *
    cases hh : hadM x.s x.c.key <;> simp [hh] at * <;> omega
  · obtain ⟨b1, b2, b3, b4, b5, b6, b7⟩ := pt (.inr (.inr h))
    rw [h] at *
    simp [two, b2i] at *
    omega
  · have hy := hy.2 h
    have l1 := (lines_b (x.s.qv 0).size).1
    subst hy
    rw [h]
    by_cases h0 : x.s.m = 0
    · simp [h0, b2i]
    · simp [h0, b2i]; omega
  · have s1 := seek_pos x.s x.c.key
    have s2 := scan_pos x.s x.c.key x.c.to (3 + seekM x.s x.c.key) x.s.n
    rw [h]
    simp
    omega
  · rw [h]
    simp [Cst.zero]
theorem fit_group (x : SC) (hx : x.ok) (hm : mayM x.s = true) (hg : goodM x.c = 0) (h7 : x.c.kind = 7) : fitB (callM x.s x.c) (cntM (writesB x.c (hitM x)) x.c.gn : Nat) x.c.kind := by
  have hy : groupR x (hitM x) := fun _ _ _ => rfl
  obtain ⟨g1, g2, g3⟩ := mem_kinds hg h7
  obtain ⟨b1, b2, b3, b4, b5, b6, b7⟩ := group_b x.s x.c.g (hitM x) hx.1.1 x.c.gn g2 fun j hj => ⟨mem_kind (g3 j hj), hy j hj⟩
  have e : callM x.s x.c = groupTo x.s x.c.g x.c.gn := by
    unfold callM
    rw [hm, hg, h7]
    simp
  unfold fitB
  rw [e]
  have ew : writesB x.c (hitM x) = fun j => decide ((x.c.g j).kind ≠ 3) || hitM x j := rfl
  rw [ew]
  have hle := cntM_le (fun j => decide ((x.c.g j).kind ≠ 3) || hitM x j) x.c.gn
  refine ⟨b5, ?_, b1, b2, by omega, by omega, by omega, by omega, by omega⟩
  constructor
  · intro h0; omega
  · intro h0; omega
theorem fin_b {c : Cst} {n k : Int} (h : fitB c n k) (z : Bool) (hz : z = (n == 0)) : I64 (c.s4 + n) ∧ cP (c.s1 == c.s4 + n) (cP (z == (c.s1 == 0)) (cP (c.s2 == 0) (cP (c.s3 == 0) (cP (decide (c.s0 > 0) == (k != 8)) True (true = false)) (true = false)) (true = false)) (true = false)) (true = false) := by
  obtain ⟨h1, h2, h3, h4, h5, h6, h7, h8, h9⟩ := h
  have e1 : (c.s1 == c.s4 + n) = true := by rw [h1]; simp
  have e2 : (z == (c.s1 == 0)) = true := by
    rw [hz]
    by_cases hn : n = 0
    · have := h2.1 hn; rw [hn, this]; rfl
    · have : ¬ c.s1 = 0 := fun h => hn (h2.2 h)
      have a : (n == 0) = false := by simpa using hn
      have b : (c.s1 == 0) = false := by simpa using this
      rw [a, b]; rfl
  have e3 : (c.s2 == 0) = true := by rw [h3]; rfl
  have e4 : (c.s3 == 0) = true := by rw [h4]; rfl
  have e5 : (decide (c.s0 > 0) == (k != 8)) = true := by
    by_cases hk : k = 8
    · have : ¬ 0 < c.s0 := fun h => (h5.1 h) hk
      simp [hk, this]
    · have := h5.2 hk
      simp [hk, this]
  rw [e1, e2, e3, e4, e5]
  exact ⟨by unfold I64; omega, trivial⟩
end Go.Proofs.Ytjndgegfonhhfaa
end
