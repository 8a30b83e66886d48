/- The calls on a line. -/
import Derived.Test.YtagaecgkciablaaFA
import Derived.Test.YtagaecgkciablaaRows
import Derived.KernelRfl
namespace Go.Proofs.Ytagaecgkciablaa
open Go SE
noncomputable def tt : TT := mkTI Try.prog
theorem tt_ok : tt.ok Try.prog := fun _ _ h => h
set_option maxRecDepth 20000
set_option maxHeartbeats 1000000
theorem mixed : Try.prog.follows .mixedOrders = true := by kernel_rfl

def i64 (n : Int) : AV := .lit (.int .i64 n)
def ringO (ls : List Lk) (p n : Nat) : AObj := .cells 45 (.av [.slU 1 0 ls.length 5, .lit (.int .i64 p), .lit (.int .i64 n)])
def RH (ls : List Lk) (p n : Nat) : Heap := hO 2 [ringO ls p n, .room 28 (.raw (flat Lk.cells ls))]
def nilO : AObj := .cells 45 (.av [.lit (.slice none 0 0), .lit (.int .i64 0), .lit (.int .i64 0)])
/-- A line in which xs wait. -/
def LineΦ (xs : List Lk) (h : Heap) : Prop := (xs = [] ∧ h = hO 1 [nilO]) ∨ ∃ ls p, Ring ls p xs ∧ ls.length ≤ 1000 ∧ h = RH ls p xs.length
def lineO (xs : List Lk) : AObj := .abs (mkOwn (LineΦ xs))

theorem idxU {tt : TT} {t e : TypeId} {ti te : TI} {i o n sz p m : Nat} {kk : IntKind} (hti : tt t = some ti) (hd : ti.desc = .slice e) (hte : tt e = some te) (hm : te.size = m) (hp : p < n) :
    indexAddrN tt t (.slU i o n sz) (.lit (.int kk (p : Int))) = some (.ptr i (o + p * m)) := by
  subst hm
  simp only [indexAddrN, hti, hd, hte]
  rw [if_pos ⟨by omega, by omega⟩, Int.toNat_natCast]
theorem idxU0 {tt : TT} {t e : TypeId} {ti te : TI} {i n sz p m : Nat} {kk : IntKind} (hti : tt t = some ti) (hd : ti.desc = .slice e) (hte : tt e = some te) (hm : te.size = m) (hp : p < n) :
    indexAddrN tt t (.slU i 0 n sz) (.lit (.int kk (p : Int))) = some (.ptr i (p * m)) := by
  rw [idxU hti hd hte hm hp, Nat.zero_add]
theorem loadE {tt : TT} {t : TypeId} {ti : TI} {h : Heap} {i k m : Nat} {α : Type} {f : α → List Value} {l : List α} {a : α} (hti : tt t = some ti) (hagg : ti.agg = true) (hm : ti.size = m) (hf : ∀ a, (f a).length = m)
    (hr : RawAt h i (flat f l)) (hk : l[k]? = some a) : loadA tt t (.ptr i (k * m)) h = some (.agg ((f a).map .lit)) := by
  subst hm; exact load_elem hti hagg hf hr hk

theorem callable18 : Callable Try.prog 18 := ⟨_, Try.func18, rfl, rfl⟩

theorem head_sp (xs : List Lk) : Sp Try.prog 18 [.ptr 0 0] (hO 1 [lineO xs])
    (fun v h => v = .tup [(xs.headD Lk.zero).av, .lit (.bool !xs.isEmpty)] ∧ h = hO 1 [lineO xs]) := by
  refine sp_openq (i := 0) (Φ := LineΦ xs) rfl callable18 ?_
  rintro h0 (⟨rfl, rfl⟩ | ⟨ls, p, hr, hl, rfl⟩)
  · refine spec_of_awp tt_ok Try.func18 rfl rfl rfl ?_
    refine awp_seq (awp_region rfl (rplan_all tt_ok false rfl ?_))
    refine awp_seq (awp_seq (awp_region rfl (rplan_all tt_ok false rfl ?_)))
    refine awp_cond rfl (fun _ => ?_) (fun hb => by cases hb)
    refine awp_seq (awp_region rfl (rplan_all tt_ok false rfl ?_))
    refine awp_ret ⟨.inr rfl, _, rfl, _, _, (leq_close (Φ := LineΦ []) 1 [0] [nilO] rfl rfl rfl (Nat.le_of_ble_eq_true rfl) (.inl ⟨rfl, rfl⟩) ⟨⟨rfl, rfl, rfl⟩, trivial⟩).trans
      (leq_sub 1 [0] [lineO []] rfl rfl ⟨⟨lineO [], rfl, soft_map rfl⟩, trivial⟩ rfl rfl), rfl, rfl⟩
  · refine spec_of_awp tt_ok Try.func18 rfl rfl rfl ?_
    refine awp_seq (awp_region rfl (rplan_all tt_ok false rfl ?_))
    refine awp_seq (awp_seq (awp_region rfl (rplan_all tt_ok false rfl ?_)))
    cases xs with
    | nil =>
      refine awp_cond rfl (fun _ => ?_) (fun hb => by cases hb)
      refine awp_seq (awp_region rfl (rplan_all tt_ok false rfl ?_))
      refine awp_ret ⟨.inr rfl, _, rfl, _, _, (leq_close (Φ := LineΦ []) 2 [0, 1] [ringO ls p 0, .room 28 (.raw (flat Lk.cells ls))] rfl rfl rfl (Nat.le_of_ble_eq_true rfl) (.inr ⟨ls, p, hr, hl, rfl⟩) ⟨⟨rfl, rfl, rfl⟩, ⟨rfl, rfl, rfl⟩, trivial⟩).trans
        (leq_sub 1 [0] [lineO []] rfl rfl ⟨⟨lineO [], rfl, soft_map rfl⟩, trivial⟩ rfl rfl), rfl, rfl⟩
    | cons x xs =>
      refine awp_cond rfl (fun hb => absurd hb (by simp; omega)) (fun _ => awp_skip ?_)
      refine awp_seq (awp_draw mixed (pl := [.nn 0, .nn 1, .nn 2, .nn 4, .nn 5, .nn 6, .rr [3, 7, 8, 9], .xx 10, .nn 11]) (by kernel_rfl) (rplan_k tt_ok false 8 rfl ?_))
      refine rplan_rr_cons tt_ok (stepR_of rfl rfl rfl (show indexAddrN tt 34 (.slU 1 0 ls.length 5) (.lit (.int .i64 (p : Int))) = some (.ptr 1 (p * 5)) from idxU0 rfl rfl rfl rfl hr.lt)) ?_
      refine rplan_rr_cons tt_ok (stepR_load rfl rfl rfl rfl (show loadA tt 28 (.ptr 1 (p * 5)) _ = some x.av from loadE (f := Lk.cells) rfl rfl rfl cells_len ⟨_, rfl, rfl⟩ hr.head)) ?_
      refine rplan_all tt_ok false rfl ?_
      refine awp_ret ⟨.inr rfl, _, rfl, _, _, (leq_close (Φ := LineΦ (x :: xs)) 2 [0, 1] [ringO ls p (xs.length + 1), .room 28 (.raw (flat Lk.cells ls))] rfl rfl rfl (Nat.le_of_ble_eq_true rfl) (.inr ⟨ls, p, hr, hl, rfl⟩) ⟨⟨rfl, rfl, rfl⟩, ⟨rfl, rfl, rfl⟩, trivial⟩).trans
        (leq_sub 1 [0] [lineO (x :: xs)] rfl rfl ⟨⟨lineO (x :: xs), rfl, soft_map rfl⟩, trivial⟩ rfl rfl), rfl, rfl⟩

theorem callable17 : Callable Try.prog 17 := ⟨_, Try.func17, rfl, rfl⟩
theorem pop_sp (xs : List Lk) : Sp Try.prog 17 [.ptr 0 0] (hO 1 [lineO xs])
    (fun v h => v = .tup [(xs.headD Lk.zero).av, .lit (.bool !xs.isEmpty)] ∧ h = hO 1 [lineO xs.tail]) := by
  refine sp_leq (spec_of_awp tt_ok Try.func17 rfl rfl rfl ?_)
  refine awp_seq (awp_region rfl (rplan_all tt_ok false rfl ?_))
  refine awp_seq (awp_region rfl (rplan_k tt_ok false 1 rfl ?_))
  refine rplan_callL 1 [0] [lineO xs] (head_sp xs) rfl rfl rfl rfl rfl rfl rfl rfl rfl ⟨⟨rfl, _, rfl, .inl rfl⟩, trivial⟩ rfl rfl ?_
  rintro _ _ ⟨rfl, rfl⟩
  refine rplan_all tt_ok false rfl ?_
  refine awp_seq (awp_seq (awp_region rfl (rplan_all tt_ok false rfl ?_)))
  cases xs with
  | nil =>
    refine awp_cond rfl (fun hb => by cases hb) (fun _ => awp_skip ?_)
    refine awp_seq (awp_region rfl (rplan_all tt_ok false rfl ?_))
    exact awp_ret ⟨.inr rfl, _, rfl, _, _, leq_sub 1 [0] [lineO []] rfl rfl ⟨⟨lineO [], rfl, soft_map rfl⟩, trivial⟩ rfl rfl, rfl, rfl⟩
  | cons x xs =>
    refine awp_cond rfl (fun _ => ?_) (fun hb => by cases hb)
    refine awp_seq (awp_region rfl (rplan_all tt_ok false rfl ?_))
    refine awp_open (i := 0) (Φ := LineΦ (x :: xs)) rfl ?_
    rintro h0 (⟨h, _⟩ | ⟨ls, p, hr, hl, rfl⟩)
    · cases h
    have hp1 : IntKind.i64.wrap ((p : Int) + 1) = ((p + 1 : Nat) : Int) := add_nat (a := p) (b := 1) (by have := hr.lt; omega)
    have hn1 : IntKind.i64.wrap (((xs.length + 1 : Nat) : Int) - 1) = ((xs.length : Nat) : Int) := by
      rw [show ((xs.length + 1 : Nat) : Int) - 1 = ((xs.length : Nat) : Int) by omega]; exact wrap_nat (by have := hr.le; simp at this; omega)
    refine awp_seq (awp_draw mixed (pl := [.nn 0, .nn 1, .nn 2, .nn 4, .nn 5, .nn 6, .rr [3, 7, 8, 9], .xx 10]) (by kernel_rfl) (rplan_k tt_ok false 9 rfl ?_))
    refine rplan_rr_cons tt_ok (stepR_of rfl rfl rfl (show indexAddrN tt 34 (.slU 4 0 ls.length 5) (.lit (.int .i64 (p : Int))) = some (.ptr 4 (p * 5)) from idxU0 rfl rfl rfl rfl hr.lt)) ?_
    refine rplan_rr_nil (rplan_xx tt_ok false (stepX_act false rfl rfl rfl rfl rfl (opX_store (show storeA tt 28 (.ptr 4 (p * 5)) Lk.zero.av _ = some _ from storeE (f := Lk.cells) rfl rfl (Nat.le_of_ble_eq_true rfl) cells_len (by simp [Lk.cells, Value.oneCell']) rfl rfl rfl hr.lt))) (rplan_nil ?_))
    refine awp_seq (awp_draw mixed (pl := [.nn 0, .nn 1, .nn 2, .nn 3, .nn 6, .nn 7, .nn 8, .rr [4, 5, 9, 10, 11, 12, 13], .xx 14]) (by kernel_rfl) (rplan_k tt_ok false 11 rfl ?_))
    refine rplan_rr_cons tt_ok (stepR_of rfl rfl rfl (show binN tt .rem 3 (.lit (.int .i64 (IntKind.i64.wrap ((p : Int) + 1)))) (.lit (.int .i64 (ls.length : Int))) = some (.lit (.int .i64 (((p + 1) % ls.length : Nat) : Int))) from
      binI rfl (by rw [hp1]; exact rem_nat (by have := hr.lt; omega)))) ?_
    refine rplan_all tt_ok false rfl ?_
    refine awp_region rfl (rplan_k tt_ok false 4 rfl ?_)
    refine rplan_xx tt_ok false (stepX_of false (stepR_of rfl rfl rfl (show binN tt .sub 3 (.lit (.int .i64 ((xs.length + 1 : Nat) : Int))) (.lit (.int .i64 1)) = some (.lit (.int .i64 (xs.length : Int))) from
      binI rfl (by show some (Value.int .i64 (IntKind.i64.wrap _)) = _; rw [hn1])))) ?_
    refine rplan_all tt_ok false rfl ?_
    refine awp_seq (awp_region rfl (rplan_all tt_ok false rfl ?_))
    exact awp_ret ⟨.inr rfl, _, rfl, _, _, (leq_close (Φ := LineΦ xs) 2 [0, 4] [ringO (ls.set p Lk.zero) ((p + 1) % ls.length) xs.length, .room 28 (.raw (flat Lk.cells (ls.set p Lk.zero)))] rfl rfl rfl (Nat.le_of_ble_eq_true rfl)
      (.inr ⟨ls.set p Lk.zero, (p + 1) % ls.length, hr.pop _, by rw [List.length_set]; exact hl, rfl⟩) ⟨⟨rfl, rfl, by rw [ringO, List.length_set]; rfl⟩, ⟨rfl, rfl, rfl⟩, trivial⟩).trans
        (leq_sub 1 [0] [lineO xs] rfl rfl ⟨⟨lineO xs, rfl, soft_map rfl⟩, trivial⟩ rfl rfl), rfl, rfl⟩
end Go.Proofs.Ytagaecgkciablaa
