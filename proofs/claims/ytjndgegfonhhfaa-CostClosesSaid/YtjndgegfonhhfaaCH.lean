/- Sums, told of any memory; a program that is awake. -/
import Derived.Test.YtjndgegfonhhfaaCF
import Derived.Test.YtjndgegfonhhfaaCG
import Derived.Test.YtjndgegfonhhfaaV12
namespace Go.Proofs.Ytjndgegfonhhfaa
open Go SE
theorem awake_true : awakeVC := by
  unfold awakeVC
  repeat' (first | exact trivial | exact rfl | exact Int.NonNeg.mk _ | (refine ⟨?_, ?_⟩) | decide)
theorem awake_sp : Sp Try.prog 11 [] (hO 0 []) (fun v h' => v = .lit (.bool true) ∧ h' = hO 0 []) := by
  have h := awake_true
  rw [awakeVC_ok] at h
  exact sp_endk tt_ok mixed TblOk.nil (fun _ _ _ _ => []) 400 20 0 0 rfl rfl h
def awakeT : WTr := fun args h K => match args with
  | [] => K (.lit (.bool true)) h
  | _ => False
theorem awakeT_ok (args : List AV) (h : Heap) (K : AV → Heap → Prop) (hq : awakeT args h K) : Sp Try.prog 11 args h K := by
  unfold awakeT at hq
  split at hq
  · exact (sp_plain h awake_sp (fun _ _ hh => hh.1) rfl rfl).mono fun v h' ⟨e1, e2⟩ => by subst e1 e2; exact hq
  · exact hq.elim
theorem Cst.litsOnly (x : Cst) : litsOnly x.av = true := rfl

theorem Cst.more_held {a b : Int} (h : Cst.okI a) : imin (imax 0 (imin a 1099511627776) + imax 0 (imin b 1099511627776)) 1099511627776 = Cst.heldM a b := by
  unfold Cst.okI Cst.heldM Cst.maxCost imin imax at *; grind
theorem Cst.more_i64 {a : Int} (b : Int) (h : Cst.okI a) : I64 (imax 0 (imin a 1099511627776) + imax 0 (imin b 1099511627776)) := by
  unfold Cst.okI Cst.maxCost I64 imin imax at *; grind
theorem refSumVC_true (c : Nat → Cst) (n : Nat) (hn : n < 4611686018427387904) : refSumVC c n (Cst.sum c n) := by
  unfold refSumVC
  refine ⟨⟨(0 : Nat), ?_⟩, fun (s : Nat) (hs : s ≤ n) => ?_, trivial⟩
  · simp [Cst.sum, Cst.zero]
  obtain ⟨k0, k1, k2, k3, k4, k5⟩ := Cst.sum_ok c s
  simp only [Nat.zero_add, Int.toNat_natCast, and_true, true_and]
  refine cP_intro (fun hb => ?_) (fun hb => ?_)
  · have hb : (s : Int) < n := of_decide_eq_true hb
    have hsn : s < n := by omega
    have hI : I64 ((s : Int) + 1) := by unfold I64; omega
    refine ⟨⟨by omega, hb⟩, hsn, Cst.more_i64 _ k0, Cst.more_i64 _ k1, Cst.more_i64 _ k2, Cst.more_i64 _ k3, Cst.more_i64 _ k4, Cst.more_i64 _ k5, hI, (s + 1 : Nat), ?_⟩
    rw [Cst.more_held k0, Cst.more_held k1, Cst.more_held k2, Cst.more_held k3, Cst.more_held k4, Cst.more_held k5]
    simp only [Cst.sum, Cst.add, and_true]
    exact ⟨by omega, by omega, by push_cast; rfl⟩
  · have hb : ¬ (s : Int) < n := of_decide_eq_false hb
    obtain rfl : s = n := by omega
    simp
theorem refSum_sp (c : Nat → Cst) (n : Nat) (hn : n < 4611686018427387904) : Sp Try.prog 21 [.slR 0 0 6 n] (hO 1 [.ro (rowC c n)]) (fun v h' => v = (Cst.sum c n).av ∧ h' = hO 1 [.ro (rowC c n)]) := by
  have h := refSumVC_true c n hn
  rw [refSumVC_ok] at h
  unfold refSumVC_wp at h
  exact sp_endk tt_ok mixed TblOk.nil (anRefSum c n) 200 5 1 1 rfl rfl h

/-- A cost of these cells. -/
def parseC : List Value → Option Cst
  | [.int .i64 a, .int .i64 b, .int .i64 c, .int .i64 d, .int .i64 e, .int .i64 f] => some ⟨a, b, c, d, e, f⟩
  | _ => none
theorem parseC_ok {l : List Value} {x : Cst} (h : parseC l = some x) : l = x.cells := by
  unfold parseC at h
  split at h
  · cases h; rfl
  · cases h
def parseL : List (List Value) → Option (List Cst)
  | [] => some []
  | l :: r => match parseC l with
    | some x => match parseL r with
      | some xs => some (x :: xs)
      | none => none
    | none => none
theorem parseL_ok : ∀ {L : List (List Value)} {xs : List Cst}, parseL L = some xs → L.length = xs.length ∧ ∀ k, k < xs.length → L.getD k [] = (xs.getD k Cst.zero).cells
  | [], xs, h => by simp only [parseL] at h; cases h; exact ⟨rfl, fun k hk => by simp at hk⟩
  | l :: r, xs, h => by
    simp only [parseL] at h
    split at h
    · rename_i x hx
      split at h
      · rename_i ys hy
        cases h
        obtain ⟨g1, g2⟩ := parseL_ok hy
        refine ⟨by simp [g1], fun k hk => ?_⟩
        cases k with
        | zero => simpa using parseC_ok hx
        | succ k => simpa using g2 k (by simpa using hk)
      · cases h
    · cases h
def sumFrom (x : Cst) : List Cst → Cst
  | [] => x
  | y :: r => sumFrom (Cst.add x y) r
theorem sum_list : ∀ (r l : List Cst) , sumFrom (Cst.sum (fun k => (l ++ r).getD k Cst.zero) l.length) r = Cst.sum (fun k => (l ++ r).getD k Cst.zero) (l ++ r).length
  | [], l => by simp [sumFrom]
  | y :: r, l => by
    have := sum_list r (l ++ [y])
    simp only [List.append_assoc, List.singleton_append, List.length_append, List.length_cons, List.length_nil] at this
    simp only [sumFrom, List.length_append, List.length_cons]
    rw [← this]
    simp only [Nat.zero_add, Cst.sum]
    congr 2
    simp
/-- The sum of what is given. -/
def sumT : WTr := fun args h K => match args with
  | [x] => vView h x 6 fun
    | .few L => match parseL L with
      | some cs => cs.length < 4611686018427387904 ∧ K (sumFrom Cst.zero cs).av h
      | none => False
    | .many n g => n < 4611686018427387904 ∧ ∃ c : Nat → Cst, (∀ k, k < n → g k = (c k).cells) ∧ K (Cst.sum c n).av h
  | _ => False
theorem sumT_of {f : FuncId} (hf : ∀ (c : Nat → Cst) (n : Nat), n < 4611686018427387904 → Sp Try.prog f [.slR 0 0 6 n] (hO 1 [.ro (rowC c n)]) (fun v h' => v = (Cst.sum c n).av ∧ h' = hO 1 [.ro (rowC c n)]))
    (args : List AV) (h : Heap) (K : AV → Heap → Prop) (hq : sumT args h K) : Sp Try.prog f args h K := by
  unfold sumT at hq
  split at hq
  · refine sp_slice (hf (fun _ => Cst.zero) 0 (by omega)).1 (by omega) hq fun e he => ?_
    split at he
    · rename_i L
      split at he
      · rename_i cs hcs
        obtain ⟨hl, hK⟩ := he
        obtain ⟨g1, g2⟩ := parseL_ok hcs
        refine ⟨cs.length, fun k => (cs.getD k Cst.zero).cells, (Cst.sum (fun k => cs.getD k Cst.zero) cs.length).av, g1, g2, rfl, ?_, (hf _ _ hl).mono fun _ _ hh => hh.1⟩
        have := sum_list cs []
        simp only [List.nil_append, List.length_nil, Cst.sum] at this
        rw [← this]; exact hK
      · exact he.elim
    · rename_i n g
      obtain ⟨hl, c, hc, hK⟩ := he
      exact ⟨n, fun k => (c k).cells, (Cst.sum c n).av, rfl, hc, rfl, hK, (hf c n hl).mono fun _ _ hh => hh.1⟩
  · exact hq.elim
def tbl : WTbl := [(15, sumT), (21, sumT), (11, awakeT)]
theorem tbl_ok : TblOk Try.prog tbl := .cons (sumT_of sum_sp) (.cons (sumT_of refSum_sp) (.cons awakeT_ok .nil))
end Go.Proofs.Ytjndgegfonhhfaa
