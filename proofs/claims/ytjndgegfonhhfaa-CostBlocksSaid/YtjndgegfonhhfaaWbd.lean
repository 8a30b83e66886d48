import Derived.Test.YtjndgegfonhhfaaWba
import Derived.Test.YtjndgegfonhhfaaWbb
import Derived.Test.YtjndgegfonhhfaaWbc
import Derived.Test.YtjndgegfonhhfaaRows
import Derived.KernelRfl
set_option linter.unusedVariables false
set_option linter.unusedSimpArgs false
section
/- The words of the cost seat. -/
namespace Go.Proofs.Ytjndgegfonhhfaa
open Go SE
noncomputable def tt : TT := mkTI Try.prog
theorem tt_ok : tt.ok Try.prog := fun _ _ h => h
set_option maxRecDepth 20000
theorem mixed : Try.prog.follows .mixedOrders = true := by kernel_rfl
def i64 (n : Int) : AV := .lit (.int .i64 n)
end Go.Proofs.Ytjndgegfonhhfaa
end
section
/- Sums of texts. -/
namespace Go.Proofs.Ytjndgegfonhhfaa
open Go SE
def x32 (a b : Int) : Int := IntKind.u32.wrap ((BitVec.ofInt 32 a ^^^ BitVec.ofInt 32 b).toNat : Nat)
def bitM (c : Int) : Int := bif decide (c % 2 = 0) then c / 2 else x32 (c / 2) 3988292384
def bitsM (c : Int) : Nat → Int
  | 0 => c
  | k + 1 => bitM (bitsM c k)
def stepM (c x : Int) : Int := bitsM (x32 c x) 8
def crcTo (s : ByteArray) : Nat → Int
  | 0 => 4294967295
  | i + 1 => stepM (crcTo s i) (strAt s i)
noncomputable def textM (s : ByteArray) : Int := hide (x32 (crcTo s s.size) 4294967295)
theorem textM_eq (s : ByteArray) : textM s = x32 (crcTo s s.size) 4294967295 := hide_eq _
def U32 (c : Int) : Prop := 0 ≤ c ∧ c < 4294967296
theorem wrap_u32 (z : Int) : U32 (IntKind.u32.wrap z) := by
  unfold IntKind.wrap U32
  simp [IntKind.bits, IntKind.signed]
  omega
theorem wrap_u32_id {z : Int} (h : U32 z) : IntKind.u32.wrap z = z := by
  unfold IntKind.wrap U32 at *
  simp [IntKind.bits, IntKind.signed]
  omega
theorem x32_U (a b : Int) : U32 (x32 a b) := wrap_u32 _
theorem bitM_U {c : Int} (h : U32 c) : U32 (bitM c) := by
  unfold bitM
  cases decide (c % 2 = 0)
  · exact x32_U _ _
  · unfold U32 at *; simp only [cond_true]; omega
theorem bitsM_U {c : Int} (h : U32 c) : ∀ k, U32 (bitsM c k)
  | 0 => h
  | k + 1 => bitM_U (bitsM_U h k)
theorem crcTo_U (s : ByteArray) : ∀ i, U32 (crcTo s i)
  | 0 => by unfold crcTo U32; omega
  | i + 1 => bitsM_U (x32_U _ _) 8
theorem textM_U (s : ByteArray) : U32 (textM s) := by rw [textM_eq]; exact x32_U _ _
theorem strAt_u8 (s : ByteArray) (k : Nat) : 0 ≤ strAt s k ∧ strAt s k < 256 := by
  unfold strAt
  have := (s.data.toList.getD k 0).toNat_lt
  omega
def u32 (c : Int) : AV := .lit (.int .u32 c)
def stepC : Ctr := det (Int × Int) (fun p => [u32 p.1, .lit (.int .u8 p.2)]) 0 (fun _ => []) (fun p => U32 p.1 ∧ 0 ≤ p.2 ∧ p.2 < 256) (fun p => u32 (stepM p.1 p.2)) 0 (fun _ => [])
def anStep (p : Int × Int) : FuncId → Anns := fun f =>
  bif Nat.beq f 120 then (fun b fr h => bif Nat.beq b 0 then [{ σ := Nat, fr := fun k => [(5, i64 k), (0, u32 (bitsM (x32 p.1 p.2) k))], ob := fun _ => [], inv := fun k => k ≤ 8, meas := fun k => 8 - k }] else []) else
  bif Nat.beq f 121 then (fun b fr h => bif Nat.beq b 0 then [{ σ := Nat, fr := fun k => [(5, i64 k), (0, u32 (bitsM (x32 p.1 p.2) k))], ob := fun _ => [], inv := fun k => k ≤ 8, meas := fun k => 8 - k }] else []) else fun _ _ _ => []
def strV (s : ByteArray) : AV := .lit (.string s)
noncomputable def textC : Ctr := det ByteArray (fun s => [strV s]) 0 (fun _ => []) (fun s => s.size < 1099511627776) (fun s => u32 (textM s)) 0 (fun _ => [])
def anText (s : ByteArray) : FuncId → Anns := fun f =>
  bif Nat.beq f 102 then (fun b fr h => bif Nat.beq b 0 then [{ σ := Nat, fr := fun i => [(7, i64 i), (3, u32 (crcTo s i))], ob := fun _ => [], inv := fun i => i ≤ s.size, meas := fun i => s.size - i }] else []) else
  bif Nat.beq f 106 then (fun b fr h => bif Nat.beq b 0 then [{ σ := Nat, fr := fun i => [(4, i64 i), (3, u32 (crcTo s i))], ob := fun _ => [], inv := fun i => i ≤ s.size, meas := fun i => s.size - i }] else []) else fun _ _ _ => []
end Go.Proofs.Ytjndgegfonhhfaa
end
section
/- What is asked of sums of texts. -/
namespace Go.Proofs.Ytjndgegfonhhfaa
open Go SE
def stepVC_wp (p : Int × Int) : Prop := wpF Try.prog [] tt (anStep p) 200 5 120 (stepC.args p) (hO stepC.k (stepC.os p)) (fun v h' => endsP stepC.k p v h' stepC.outs)
def stepVC (p : Int × Int) : Prop :=
  ((∃ (s : Nat), ((s ≤ 8) ∧ (True ∧ (((((s : Nat) : Int) = (0 : Int)) ∧ (((@bitsM (@x32 p.1 p.2) s) = (IntKind.wrap IntKind.u32 (((@BitVec.toNat 32 (@HXor.hXor (@BitVec 32) (@BitVec 32) (@BitVec 32) (@instHXorOfXorOp (@BitVec 32) (@BitVec.instXorOp 32)) (@BitVec.ofInt 32 p.1) (@BitVec.ofInt 32 (IntKind.wrap IntKind.u32 p.2)))) : Nat) : Int))) ∧ True)) ∧ True)))) ∧ ((∀ (s : Nat), ((s ≤ 8) → (cP (decide (((s : Nat) : Int) < (8 : Int))) ((I64 (((s : Nat) : Int) + (1 : Int))) ∧ ((((2 : Int) = (0 : Int)) → False) ∧ (cP (BEq.beq (@Int.tmod (@bitsM (@x32 p.1 p.2) s) (2 : Int)) (0 : Int)) ((((2 : Int) = (0 : Int)) → False) ∧ (∃ (s_1 : Nat), ((s_1 ≤ 8) ∧ (((8 - s_1) < (8 - s)) ∧ (((((s_1 : Nat) : Int) = (((s : Nat) : Int) + (1 : Int))) ∧ (((@bitsM (@x32 p.1 p.2) s_1) = (IntKind.wrap IntKind.u32 (@Int.tdiv (@bitsM (@x32 p.1 p.2) s) (2 : Int)))) ∧ True)) ∧ True))))) ((((2 : Int) = (0 : Int)) → False) ∧ (∃ (s_1 : Nat), ((s_1 ≤ 8) ∧ (((8 - s_1) < (8 - s)) ∧ (((((s_1 : Nat) : Int) = (((s : Nat) : Int) + (1 : Int))) ∧ (((@bitsM (@x32 p.1 p.2) s_1) = (IntKind.wrap IntKind.u32 (((@BitVec.toNat 32 (@HXor.hXor (@BitVec 32) (@BitVec 32) (@BitVec 32) (@instHXorOfXorOp (@BitVec 32) (@BitVec.instXorOp 32)) (@BitVec.ofInt 32 (IntKind.wrap IntKind.u32 (@Int.tdiv (@bitsM (@x32 p.1 p.2) s) (2 : Int)))) (@BitVec.ofInt 32 (3988292384 : Int)))) : Nat) : Int))) ∧ True)) ∧ True)))))))) (∃ (y : Unit), (True ∧ (((@stepM p.1 p.2) = (@bitsM (@x32 p.1 p.2) s)) ∧ True)))))) ∧ True))
theorem stepVC_ok (p : Int × Int) : stepVC p = stepVC_wp p := by kernel_rfl
def rstepVC_wp (p : Int × Int) : Prop := wpF Try.prog [] tt (anStep p) 200 5 121 (stepC.args p) (hO stepC.k (stepC.os p)) (fun v h' => endsP stepC.k p v h' stepC.outs)
def rstepVC (p : Int × Int) : Prop :=
  ((∃ (s : Nat), ((s ≤ 8) ∧ (True ∧ (((((s : Nat) : Int) = (0 : Int)) ∧ (((@bitsM (@x32 p.1 p.2) s) = (IntKind.wrap IntKind.u32 (((@BitVec.toNat 32 (@HXor.hXor (@BitVec 32) (@BitVec 32) (@BitVec 32) (@instHXorOfXorOp (@BitVec 32) (@BitVec.instXorOp 32)) (@BitVec.ofInt 32 p.1) (@BitVec.ofInt 32 (IntKind.wrap IntKind.u32 p.2)))) : Nat) : Int))) ∧ True)) ∧ True)))) ∧ ((∀ (s : Nat), ((s ≤ 8) → (cP (decide (((s : Nat) : Int) < (8 : Int))) ((((2 : Int) = (0 : Int)) → False) ∧ (cP (BEq.beq (IntKind.wrap IntKind.u32 (((@BitVec.toNat 32 (@HAnd.hAnd (@BitVec 32) (@BitVec 32) (@BitVec 32) (@instHAndOfAndOp (@BitVec 32) (@BitVec.instAndOp 32)) (@BitVec.ofInt 32 (@bitsM (@x32 p.1 p.2) s)) (@BitVec.ofInt 32 (1 : Int)))) : Nat) : Int)) (1 : Int)) ((I64 (((s : Nat) : Int) + (1 : Int))) ∧ (∃ (s_1 : Nat), ((s_1 ≤ 8) ∧ (((8 - s_1) < (8 - s)) ∧ (((((s_1 : Nat) : Int) = (((s : Nat) : Int) + (1 : Int))) ∧ (((@bitsM (@x32 p.1 p.2) s_1) = (IntKind.wrap IntKind.u32 (((@BitVec.toNat 32 (@HXor.hXor (@BitVec 32) (@BitVec 32) (@BitVec 32) (@instHXorOfXorOp (@BitVec 32) (@BitVec.instXorOp 32)) (@BitVec.ofInt 32 (IntKind.wrap IntKind.u32 (@Int.tdiv (@bitsM (@x32 p.1 p.2) s) (2 : Int)))) (@BitVec.ofInt 32 (3988292384 : Int)))) : Nat) : Int))) ∧ True)) ∧ True))))) ((I64 (((s : Nat) : Int) + (1 : Int))) ∧ (∃ (s_1 : Nat), ((s_1 ≤ 8) ∧ (((8 - s_1) < (8 - s)) ∧ (((((s_1 : Nat) : Int) = (((s : Nat) : Int) + (1 : Int))) ∧ (((@bitsM (@x32 p.1 p.2) s_1) = (IntKind.wrap IntKind.u32 (@Int.tdiv (@bitsM (@x32 p.1 p.2) s) (2 : Int)))) ∧
 True)) ∧ True))))))) (∃ (y : Unit), (True ∧ (((@stepM p.1 p.2) = (@bitsM (@x32 p.1 p.2) s)) ∧ True)))))) ∧ True))
theorem rstepVC_ok (p : Int × Int) : rstepVC p = rstepVC_wp p := by kernel_rfl
def textVC_wp (s : ByteArray) : Prop := wpF Try.prog [(120, ctrT stepC)] tt (anText s) 200 5 102 (textC.args s) (hO textC.k (textC.os s)) (fun v h' => endsP textC.k s v h' textC.outs)
def textVC (s : ByteArray) : Prop :=
  ((∃ (s_1 : Nat), ((s_1 ≤ (@ByteArray.size s)) ∧ (True ∧ (((((s_1 : Nat) : Int) = (0 : Int)) ∧ (((@crcTo s s_1) = (4294967295 : Int)) ∧ True)) ∧ True)))) ∧ ((∀ (s_1 : Nat), ((s_1 ≤ (@ByteArray.size s)) → (cP (decide (((s_1 : Nat) : Int) < (((@ByteArray.size s) : Nat) : Int))) ((((0 : Int) ≤ ((s_1 : Nat) : Int)) ∧ (((s_1 : Nat) : Int) < (((@ByteArray.size s) : Nat) : Int))) ∧ (∃ (x : (@Prod Int Int)), (((((0 : Int) ≤ x.1) ∧ (x.1 < (4294967296 : Int))) ∧ (((0 : Int) ≤ x.2) ∧ (x.2 < (256 : Int)))) ∧ (((x.1 = (@crcTo s s_1)) ∧ ((x.2 = (@strAt s s_1)) ∧ True)) ∧ (True ∧ (∀ (y : Unit), (True → ((I64 (((s_1 : Nat) : Int) + (1 : Int))) ∧ (∃ (s_2 : Nat), ((s_2 ≤ (@ByteArray.size s)) ∧ ((((@ByteArray.size s) - s_2) < ((@ByteArray.size s) - s_1)) ∧ (((((s_2 : Nat) : Int) = (((s_1 : Nat) : Int) + (1 : Int))) ∧ (((@crcTo s s_2) = (@stepM x.1 x.2)) ∧ True)) ∧ True)))))))))))) (∃ (y : Unit), (True ∧ (((@textM s) = (IntKind.wrap IntKind.u32 (((@BitVec.toNat 32 (@HXor.hXor (@BitVec 32) (@BitVec 32) (@BitVec 32) (@instHXorOfXorOp (@BitVec 32) (@BitVec.instXorOp 32)) (@BitVec.ofInt 32 (@crcTo s s_1)) (@BitVec.ofInt 32 (4294967295 : Int)))) : Nat) : Int))) ∧ True)))))) ∧ True))
theorem textVC_ok (s : ByteArray) : textVC s = textVC_wp s := by kernel_rfl
def rtextVC_wp (s : ByteArray) : Prop := wpF Try.prog [(121, ctrT stepC)] tt (anText s) 200 5 106 (textC.args s) (hO textC.k (textC.os s)) (fun v h' => endsP textC.k s v h' textC.outs)
def rtextVC (s : ByteArray) : Prop :=
  ((∃ (s_1 : Nat), ((s_1 ≤ (@ByteArray.size s)) ∧ (True ∧ (((((s_1 : Nat) : Int) = (0 : Int)) ∧ (((@crcTo s s_1) = (4294967295 : Int)) ∧ True)) ∧ True)))) ∧ ((∀ (s_1 : Nat), ((s_1 ≤ (@ByteArray.size s)) → (cP (decide (((s_1 : Nat) : Int) < (((@ByteArray.size s) : Nat) : Int))) ((((0 : Int) ≤ ((s_1 : Nat) : Int)) ∧ (((s_1 : Nat) : Int) < (((@ByteArray.size s) : Nat) : Int))) ∧ (∃ (x : (@Prod Int Int)), (((((0 : Int) ≤ x.1) ∧ (x.1 < (4294967296 : Int))) ∧ (((0 : Int) ≤ x.2) ∧ (x.2 < (256 : Int)))) ∧ (((x.1 = (@crcTo s s_1)) ∧ ((x.2 = (@strAt s s_1)) ∧ True)) ∧ (True ∧ (∀ (y : Unit), (True → ((I64 (((s_1 : Nat) : Int) + (1 : Int))) ∧ (∃ (s_2 : Nat), ((s_2 ≤ (@ByteArray.size s)) ∧ ((((@ByteArray.size s) - s_2) < ((@ByteArray.size s) - s_1)) ∧ (((((s_2 : Nat) : Int) = (((s_1 : Nat) : Int) + (1 : Int))) ∧ (((@crcTo s s_2) = (@stepM x.1 x.2)) ∧ True)) ∧ True)))))))))))) (∃ (y : Unit), (True ∧ (((@textM s) = (IntKind.wrap IntKind.u32 (((@BitVec.toNat 32 (@HXor.hXor (@BitVec 32) (@BitVec 32) (@BitVec 32) (@instHXorOfXorOp (@BitVec 32) (@BitVec.instXorOp 32)) (@BitVec.ofInt 32 (@crcTo s s_1)) (@BitVec.ofInt 32 (4294967295 : Int)))) : Nat) : Int))) ∧ True)))))) ∧ True))
theorem rtextVC_ok (s : ByteArray) : rtextVC s = rtextVC_wp s := by kernel_rfl
end Go.Proofs.Ytjndgegfonhhfaa
end
section
/- Sums of texts: what is asked is so. -/
namespace Go.Proofs.Ytjndgegfonhhfaa
open Go SE
theorem half {c : Int} (h : U32 c) : Int.tmod c 2 = c % 2 ∧ IntKind.u32.wrap (Int.tdiv c 2) = c / 2 := by
  have e : Int.tdiv c 2 = c / 2 := Int.tdiv_eq_ediv_of_nonneg h.1
  refine ⟨Int.tmod_eq_emod_of_nonneg h.1, ?_⟩
  rw [e]; exact wrap_u32_id (by unfold U32 at *; omega)
theorem and1 (c : Int) : IntKind.u32.wrap (((BitVec.ofInt 32 c &&& BitVec.ofInt 32 1).toNat : Nat) : Int) = c % 2 := by
  have h1 : (BitVec.ofInt 32 c &&& BitVec.ofInt 32 1).toNat = (BitVec.ofInt 32 c).toNat % 2 := by
    rw [BitVec.toNat_and]
    have : (BitVec.ofInt 32 1).toNat = 2 ^ 1 - 1 := rfl
    rw [this, Nat.and_two_pow_sub_one_eq_mod]
  have h2 : ((BitVec.ofInt 32 c).toNat : Int) = c % 4294967296 := by
    rw [BitVec.toNat_ofInt]; omega
  rw [h1, wrap_u32_id (by unfold U32; omega)]
  omega
theorem stepVC_true (p : Int × Int) (hp : U32 p.1 ∧ 0 ≤ p.2 ∧ p.2 < 256) : stepVC p := by
  unfold stepVC
  have hw : IntKind.u32.wrap p.2 = p.2 := wrap_u32_id (by unfold U32; omega)
  have hx : ∀ a b, IntKind.u32.wrap ((BitVec.ofInt 32 a ^^^ BitVec.ofInt 32 b).toNat : Nat) = x32 a b := fun _ _ => rfl
  simp only [and_true, true_and, hw, hx]
  refine ⟨⟨0, by omega, rfl, rfl⟩, fun s hs => cP_intro (fun hb => ?_) (fun hb => ?_)⟩
  · have hb := of_decide_eq_true hb
    obtain ⟨h1, h2⟩ := half (bitsM_U (x32_U p.1 p.2) s)
    rw [h1, h2]
    refine ⟨by unfold I64; omega, by omega, cP_intro (fun hc => ?_) (fun hc => ?_)⟩
    · have hc : bitsM (x32 p.1 p.2) s % 2 = 0 := by simpa using hc
      exact ⟨by omega, s + 1, by omega, by omega, rfl, by simp [bitsM, bitM, hc]⟩
    · have hc : bitsM (x32 p.1 p.2) s % 2 ≠ 0 := by simpa using hc
      exact ⟨by omega, s + 1, by omega, by omega, rfl, by simp only [bitsM, bitM, hc, decide_false, cond_false]⟩
  · have : s = 8 := by have := of_decide_eq_false hb; omega
    subst this
    exact ⟨(), rfl⟩
theorem rstepVC_true (p : Int × Int) (hp : U32 p.1 ∧ 0 ≤ p.2 ∧ p.2 < 256) : rstepVC p := by
  unfold rstepVC
  have hw : IntKind.u32.wrap p.2 = p.2 := wrap_u32_id (by unfold U32; omega)
  have hx : ∀ a b, IntKind.u32.wrap ((BitVec.ofInt 32 a ^^^ BitVec.ofInt 32 b).toNat : Nat) = x32 a b := fun _ _ => rfl
  have ha : ∀ c, IntKind.u32.wrap (((BitVec.ofInt 32 c &&& BitVec.ofInt 32 1).toNat : Nat) : Int) = c % 2 := and1
  simp only [and_true, true_and, hw, hx, ha]
  refine ⟨⟨0, by omega, rfl, rfl⟩, fun s hs => cP_intro (fun hb => ?_) (fun hb => ?_)⟩
  · have hb := of_decide_eq_true hb
    obtain ⟨h1, h2⟩ := half (bitsM_U (x32_U p.1 p.2) s)
    rw [h2]
    refine ⟨by omega, cP_intro (fun hc => ?_) (fun hc => ?_)⟩
    · have hc : bitsM (x32 p.1 p.2) s % 2 = 1 := by simpa using hc
      have hc : bitsM (x32 p.1 p.2) s % 2 ≠ 0 := by omega
      exact ⟨by unfold I64; omega, s + 1, by omega, by omega, rfl, by simp only [bitsM, bitM, hc, decide_false, cond_false]⟩
    · have hc : bitsM (x32 p.1 p.2) s % 2 ≠ 1 := by simpa using hc
      have hc : bitsM (x32 p.1 p.2) s % 2 = 0 := by omega
      exact ⟨by unfold I64; omega, s + 1, by omega, by omega, rfl, by simp [bitsM, bitM, hc]⟩
  · have : s = 8 := by have := of_decide_eq_false hb; omega
    subst this
    exact ⟨(), rfl⟩
theorem step_ok : CtrOk Try.prog 120 stepC := det_end tt_ok mixed TblOk.nil anStep 200 5 (fun _ => rfl) (fun _ => rfl) fun x hx => Eq.mp (stepVC_ok x) (stepVC_true x hx)
theorem rstep_ok : CtrOk Try.prog 121 stepC := det_end tt_ok mixed TblOk.nil anStep 200 5 (fun _ => rfl) (fun _ => rfl) fun x hx => Eq.mp (rstepVC_ok x) (rstepVC_true x hx)
theorem textVC_true (s : ByteArray) (hs : s.size < 1099511627776) : textVC s := by
  unfold textVC
  simp only [and_true, true_and]
  refine ⟨⟨0, by omega, rfl, rfl⟩, fun i hi => cP_intro (fun hb => ?_) (fun hb => ?_)⟩
  · have hb := of_decide_eq_true hb
    refine ⟨⟨by omega, by omega⟩, (crcTo s i, strAt s i), ⟨crcTo_U s i, strAt_u8 s i⟩, ⟨rfl, rfl⟩, fun _ _ => ⟨by unfold I64; omega, i + 1, by omega, by omega, rfl, rfl⟩⟩
  · have : i = s.size := by have := of_decide_eq_false hb; omega
    subst this
    exact ⟨(), textM_eq s⟩
theorem rtextVC_true (s : ByteArray) (hs : s.size < 1099511627776) : rtextVC s := by
  have h := textVC_true s hs
  unfold textVC at h
  unfold rtextVC
  exact h
theorem text_ok : CtrOk Try.prog 102 textC := det_end tt_ok mixed (.cons (ctrT_ok step_ok) .nil) anText 200 5 (fun _ => rfl) (fun _ => rfl) fun x hx => Eq.mp (textVC_ok x) (textVC_true x hx)
theorem rtext_ok : CtrOk Try.prog 106 textC := det_end tt_ok mixed (.cons (ctrT_ok rstep_ok) .nil) anText 200 5 (fun _ => rfl) (fun _ => rfl) fun x hx => Eq.mp (rtextVC_ok x) (rtextVC_true x hx)
end Go.Proofs.Ytjndgegfonhhfaa
end
section
/- Costs and their sums. -/
namespace Go.Proofs.Ytjndgegfonhhfaa
open Go SE
/-- A cost. -/
structure Cst where
  s0 : Int
  s1 : Int
  s2 : Int
  s3 : Int
  s4 : Int
  s5 : Int
deriving DecidableEq
namespace Cst
def cells (x : Cst) : List Value := [.int .i64 x.s0, .int .i64 x.s1, .int .i64 x.s2, .int .i64 x.s3, .int .i64 x.s4, .int .i64 x.s5]
def avs (x : Cst) : List AV := [i64 x.s0, i64 x.s1, i64 x.s2, i64 x.s3, i64 x.s4, i64 x.s5]
def av (x : Cst) : AV := .agg x.avs
def zero : Cst := ⟨0, 0, 0, 0, 0, 0⟩
def maxCost : Int := 1099511627776
def heldM (a b : Int) : Int := a + imin (imax b 0) (maxCost - a)
def add (x y : Cst) : Cst := ⟨heldM x.s0 y.s0, heldM x.s1 y.s1, heldM x.s2 y.s2, heldM x.s3 y.s3, heldM x.s4 y.s4, heldM x.s5 y.s5⟩
def sum (c : Nat → Cst) : Nat → Cst
  | 0 => zero
  | i + 1 => add (sum c i) (c i)
def okI (a : Int) : Prop := 0 ≤ a ∧ a ≤ maxCost
def ok (x : Cst) : Prop := okI x.s0 ∧ okI x.s1 ∧ okI x.s2 ∧ okI x.s3 ∧ okI x.s4 ∧ okI x.s5
end Cst
def rowC (c : Nat → Cst) (n : Nat) : Cs := .row 6 n (fun k => (c k).cells) []
def anSum (c : Nat → Cst) (n : Nat) : FuncId → Anns := fun g => bif Nat.beq g 15 then (fun b fr h => bif Nat.beq b 0 then [{ σ := Nat, fr := fun i => [(8, i64 i)], ob := fun i => [(2, some (.cells 33 (.av (Cst.sum c i).avs)))], inv := fun i => i ≤ n, meas := fun i => n - i }] else []) else fun _ _ _ => []
def anRefSum (c : Nat → Cst) (n : Nat) : FuncId → Anns := fun g => bif Nat.beq g 21 then (fun b fr h => bif Nat.beq b 0 then [{ σ := Nat, fr := fun i => [(4, i64 i)], ob := fun i => [(2, some (.cells 33 (.av (Cst.sum c i).avs)))], inv := fun i => i ≤ n, meas := fun i => n - i }] else []) else fun _ _ _ => []
end Go.Proofs.Ytjndgegfonhhfaa
end
section
/- Calls and stores: plain words. -/
namespace Go.Proofs.Ytjndgegfonhhfaa
open Go SE
noncomputable section
abbrev BA := ByteArray
def lsB (a b : BA) : Bool := Op.bytesLess a.toList b.toList
def eqB (a b : BA) : Bool := a.toList == b.toList
def str (s : BA) : AV := .lit (.string s)
def boo (b : Bool) : AV := .lit (.bool b)
/-- A store: pairs, and what waits. -/
structure Shf where
  pk : Nat → BA
  pv : Nat → BA
  n : Nat
  qv : Nat → BA
  m : Nat
  zp : Bool
  zq : Bool
def rowP (s : Shf) : Cs := .row 2 s.n (fun k => [.string (s.pk k), .string (s.pv k)]) []
def rowQ (s : Shf) : Cs := .row 1 s.m (fun k => [.string (s.qv k)]) []
/-- A call of a group. -/
structure Mem where
  kind : Int
  key : BA
  value : BA
  to : BA
  gp : Option Addr
  gn : Nat
  gc : Nat
def Mem.cells (x : Mem) : List Value := [.int .i64 x.kind, .string x.key, .string x.value, .string x.to, .slice x.gp x.gn x.gc]
def Mem.av (x : Mem) : AV := .agg [i64 x.kind, str x.key, str x.value, str x.to, .lit (.slice x.gp 0 x.gc)]
structure Cll where
  kind : Int
  key : BA
  value : BA
  to : BA
  g : Nat → Mem
  gn : Nat
def rowG (c : Cll) : Cs := .row 5 c.gn (fun k => (c.g k).cells) []
def Cll.av (c : Cll) (i : Nat) : AV := .agg [i64 c.kind, str c.key, str c.value, str c.to, .slR i 0 5 c.gn]
def Shf.av (s : Shf) (i j : Nat) : AV := .agg [.slR i 0 2 s.n, .slR j 0 1 s.m]
def Shf.avZ (s : Shf) (i j : Nat) : AV := .agg [.slZ s.zp i 0 2 s.n, .slZ s.zq j 0 1 s.m]
def Shf.wf (s : Shf) : Prop := (s.zp = true → s.n = 0) ∧ (s.zq = true → s.m = 0)
def Mem.small (x : Mem) : Prop := x.key.size ≤ 1500 ∧ x.value.size ≤ 1500 ∧ x.to.size ≤ 1500 ∧ x.gn = 0
def Cll.small (c : Cll) : Prop := c.key.size ≤ 1500 ∧ c.value.size ≤ 1500 ∧ c.to.size ≤ 1500 ∧ c.gn ≤ 1500 ∧ ∀ k, k < c.gn → (c.g k).small
def Shf.small (s : Shf) : Prop := s.n ≤ 40 ∧ s.m ≤ 40 ∧ (∀ k, k < s.n → (s.pk k).size ≤ 600 ∧ (s.pv k).size ≤ 600) ∧ ∀ k, k < s.m → (s.qv k).size ≤ 600
/-! ### Where a key is -/
def bucketM (s : BA) : Int := textM s % 8
def dbl (c : Int) : Int := c * 2 % 4294967296
def levelM (s : BA) : Int := bif decide (textM s < 2147483648) then 1 else bif decide (dbl (textM s) < 2147483648) then 2 else bif decide (dbl (dbl (textM s)) < 2147483648) then 3 else 4
/-! ### Sizes -/
def spanM (c : Int) : Int := bif decide (c = 0) then 1 else bif decide (c = 1) then 2 else bif decide (c = 2) then 4 else bif decide (c = 3) then 8 else 0
def capM (c : Int) : Int := bif decide (c = 0) then 28 else bif decide (c = 1) then 91 else bif decide (c = 2) then 217 else bif decide (c = 3) then 469 else 0
def needM (n : Int) : Int := bif decide (n < 0) then -1 else bif decide (n ≤ 28) then 0 else bif decide (n ≤ 91) then 1 else bif decide (n ≤ 217) then 2 else bif decide (n ≤ 469) then 3 else -1
def linesM (n : Int) : Int := spanM (needM n)
/-! ### Good calls -/
def keyedM (k : Int) : Bool := decide (k = 1) || decide (k = 2) || decide (k = 3)
def groupedM (k : Int) : Bool := decide (k = 2) || decide (k = 3) || decide (k = 4)
def emp (s : BA) : Bool := eqB s ByteArray.empty
def memOk (g : Nat → Mem) (i : Nat) : Bool := groupedM (g i).kind && !(keyedM (g i).kind && emp (g i).key) && decide (∀ j, j < i → (keyedM (g i).kind && keyedM (g j).kind && eqB (g i).key (g j).key) = false)
def shapeM (c : Cll) : Bool := decide (1 ≤ c.kind ∧ c.kind ≤ 8) && !(keyedM c.kind && emp c.key) && (decide (c.kind ≠ 7) || decide (1 ≤ c.gn ∧ c.gn ≤ 3 ∧ ∀ i, i < c.gn → memOk c.g i = true))
def longK (kind : Int) (key value to : BA) : Bool :=
  bif decide (kind = 1) || decide (kind = 3) then decide ((16 : Int) < (key.size : Nat)) else
  bif decide (kind = 2) then decide ((16 : Int) < (key.size : Nat)) || decide ((400 : Int) < (value.size : Nat)) else
  bif decide (kind = 4) then decide ((400 : Int) < (value.size : Nat)) else
  bif decide (kind = 6) then decide ((16 : Int) < (key.size : Nat)) || decide ((16 : Int) < (to.size : Nat)) else false
def longM (c : Cll) : Bool := longK c.kind c.key c.value c.to || (decide (c.kind = 7) && decide (∃ i, i < c.gn ∧ longK (c.g i).kind (c.g i).key (c.g i).value (c.g i).to = true))
def goodM (c : Cll) : Int := bif shapeM c then bif longM c then 5 else 0 else 1
/-! ### Stores -/
def mayM (s : Shf) : Bool := decide (∀ i, i < s.n → 1 ≤ i → lsB (s.pk (i - 1)) (s.pk i) = true)
/-- The first from i on, of the first n; n: none. -/
def firstM (p : Nat → Bool) (n : Nat) : Nat → Nat → Nat
  | 0, _ => n
  | f + 1, i => bif p i then i else firstM p n f (i + 1)
def placeM (s : Shf) (key : BA) : Nat := firstM (fun i => eqB (s.pk i) key) s.n s.n 0
/-! ### Costs -/
def cntM (p : Nat → Bool) : Nat → Nat
  | 0 => 0
  | i + 1 => bif p i then cntM p i + 1 else cntM p i
def nearM (s : Shf) (key : BA) (i : Nat) : Bool := lsB (s.pk i) key && decide (bucketM (s.pk i) = bucketM key)
def findM (s : Shf) (key : BA) : Int := 1 + (cntM (nearM s key) s.n : Nat)
/-- How many in a row from i on. -/
def runM (p : Nat → Bool) : Nat → Nat → Nat
  | 0, _ => 0
  | f + 1, i => bif p i then runM p f (i + 1) + 1 else 0
def skN (lv : Nat → Int) (level : Int) (a0 : Nat) (n0 : Int) : Nat → Int
  | 0 => n0
  | j + 1 => bif decide (level ≤ lv (a0 + j)) then skN lv level a0 n0 j + 1 else skN lv level a0 n0 j
def skA (lv : Nat → Int) (level : Int) (a0 : Nat) : Nat → Nat
  | 0 => a0
  | j + 1 => bif decide (level ≤ lv (a0 + j)) then a0 + j + 1 else skA lv level a0 j
def skJ (s : Shf) (key : BA) (a0 : Nat) : Nat := runM (fun i => lsB (s.pk i) key) (s.n - a0) a0
def skNx (s : Shf) (key : BA) (level : Int) (a0 : Nat) (n0 : Int) : Int := skN (fun i => levelM (s.pk i)) level a0 (n0 + 1) (skJ s key a0)
def skAx (s : Shf) (key : BA) (level : Int) (a0 : Nat) : Nat := skA (fun i => levelM (s.pk i)) level a0 (skJ s key a0)
/-- Behind k levels: how many steps, and where. -/
def skS (s : Shf) (key : BA) : Nat → Int × Nat
  | 0 => (0, 0)
  | k + 1 => (skNx s key (4 - k) (skS s key k).2 (skS s key k).1, skAx s key (4 - k) (skS s key k).2)
def seekM (s : Shf) (key : BA) : Int := (skS s key 4).1
def inM (s : Shf) (key to : BA) (i : Nat) : Bool := !lsB (s.pk i) key && (emp to || lsB (s.pk i) to)
def scanTo (s : Shf) (key to : BA) (x0 : Int) : Nat → Int
  | 0 => x0
  | i + 1 => bif inM s key to i then scanTo s key to x0 i + 1 + linesM ((s.pk i).size + (s.pv i).size : Nat) else scanTo s key to x0 i
def hadM (s : Shf) (key : BA) : Bool := decide (placeM s key < s.n)
def b2i (b : Bool) : Int := bif b then 1 else 0
/-- What a call costs within a group; e: the steps of its publishing, where it is alone. -/
def partM (s : Shf) (kind : Int) (key value : BA) (e : Int) : Cst :=
  bif decide (kind = 2) then ⟨linesM (key.size + value.size : Nat) + 1 + findM s key + e, linesM (key.size + value.size : Nat) + 1, 0, 0, linesM (key.size + value.size : Nat), b2i (hadM s key)⟩ else
  bif decide (kind = 3) then (bif hadM s key then ⟨2 + e + findM s key, 2, 0, 0, 1, 1⟩ else ⟨findM s key, 0, 0, 0, 0, 0⟩) else
  bif decide (kind = 4) then ⟨linesM (value.size : Nat) + 1 + 1, linesM (value.size : Nat) + 1, 0, 0, linesM (value.size : Nat), 0⟩ else Cst.zero
def groupTo (s : Shf) (g : Nat → Mem) : Nat → Cst
  | 0 => ⟨3, 0, 0, 0, 0, 0⟩
  | i + 1 => Cst.add (groupTo s g i) (partM s (g i).kind (g i).key (g i).value 0)
def two (x : Cst) : Cst := { x with s0 := x.s0 + 2 }
def callM (s : Shf) (c : Cll) : Cst :=
  bif mayM s then bif decide (goodM c = 0) then
    bif decide (c.kind = 1) then ⟨2 + findM s c.key + (bif hadM s c.key then linesM (c.key.size + (s.pv (placeM s c.key)).size : Nat) else 0), 0, 0, 0, 0, 0⟩ else
    bif decide (c.kind = 2) || decide (c.kind = 3) || decide (c.kind = 4) then two (partM s c.kind c.key c.value 1) else
    bif decide (c.kind = 5) then (bif decide (s.m = 0) then ⟨3, 0, 0, 0, 0, 0⟩ else ⟨6 + linesM (s.qv 0).size, 2, 0, 0, 1, 1⟩) else
    bif decide (c.kind = 6) then ⟨scanTo s c.key c.to (3 + seekM s c.key) s.n, 0, 0, 0, 0, 0⟩ else
    bif decide (c.kind = 7) then groupTo s c.g c.gn else Cst.zero
  else ⟨1, 0, 0, 0, 0, 0⟩ else Cst.zero
end
end Go.Proofs.Ytjndgegfonhhfaa
end
section
/- Places, classes: contracts. -/
namespace Go.Proofs.Ytjndgegfonhhfaa
open Go SE
noncomputable section
def noAn : FuncId → Anns := fun _ _ _ _ => []
def bucketC : Ctr := det BA (fun s => [str s]) 0 (fun _ => []) (fun s => s.size < 1099511627776) (fun s => i64 (bucketM s)) 0 (fun _ => [])
def levelC : Ctr := det BA (fun s => [str s]) 0 (fun _ => []) (fun s => s.size < 1099511627776) (fun s => i64 (levelM s)) 0 (fun _ => [])
def spanC : Ctr := det Int (fun c => [i64 c]) 0 (fun _ => []) (fun _ => True) (fun c => i64 (spanM c)) 0 (fun _ => [])
def capC : Ctr := det Int (fun c => [i64 c]) 0 (fun _ => []) (fun _ => True) (fun c => i64 (capM c)) 0 (fun _ => [])
def needC : Ctr := det Int (fun c => [i64 c]) 0 (fun _ => []) (fun _ => True) (fun c => i64 (needM c)) 0 (fun _ => [])
def linesC : Ctr := det Int (fun c => [i64 c]) 0 (fun _ => []) (fun _ => True) (fun c => i64 (linesM c)) 0 (fun _ => [])
def tblT : WTbl := [(102, ctrT textC), (106, ctrT textC)]
theorem tblT_ok : TblOk Try.prog tblT := .cons (ctrT_ok text_ok) (.cons (ctrT_ok rtext_ok) .nil)
end
end Go.Proofs.Ytjndgegfonhhfaa
end
section
/- What is asked of places and classes. -/
namespace Go.Proofs.Ytjndgegfonhhfaa
open Go SE
def bucketVC_wp (s : ByteArray) : Prop := wpF Try.prog tblT tt noAn 200 5 67 (bucketC.args s) (hO bucketC.k (bucketC.os s)) (fun v h' => endsP bucketC.k s v h' bucketC.outs)
def bucketVC (s : ByteArray) : Prop :=
  (∃ (x : @ByteArray), (((@ByteArray.size x) < 1099511627776) ∧ (((x = s) ∧ True) ∧ (True ∧ (∀ (y : Unit), (True → ((((8 : Int) = (0 : Int)) → False) ∧ ((I64 (@Int.tmod (@textM x) (8 : Int))) ∧ (∃ (y_1 : Unit), (True ∧ (((@bucketM s) = (@Int.tmod (@textM x) (8 : Int))) ∧ True)))))))))))
theorem bucketVC_ok (s : ByteArray) : bucketVC s = bucketVC_wp s := by kernel_rfl
def rbucketVC_wp (s : ByteArray) : Prop := wpF Try.prog tblT tt noAn 200 5 74 (bucketC.args s) (hO bucketC.k (bucketC.os s)) (fun v h' => endsP bucketC.k s v h' bucketC.outs)
def rbucketVC (s : ByteArray) : Prop :=
  (∃ (x : @ByteArray), (((@ByteArray.size x) < 1099511627776) ∧ (((x = s) ∧ True) ∧ (True ∧ (∀ (y : Unit), (True → ((((8 : Int) = (0 : Int)) → False) ∧ ((I64 (@Int.tmod (@textM x) (8 : Int))) ∧ (∃ (y_1 : Unit), (True ∧ (((@bucketM s) = (@Int.tmod (@textM x) (8 : Int))) ∧ True)))))))))))
theorem rbucketVC_ok (s : ByteArray) : rbucketVC s = rbucketVC_wp s := by kernel_rfl
def levelVC_wp (s : ByteArray) : Prop := wpF Try.prog tblT tt noAn 200 5 71 (levelC.args s) (hO levelC.k (levelC.os s)) (fun v h' => endsP levelC.k s v h' levelC.outs)
def levelVC (s : ByteArray) : Prop :=
  (∃ (x : @ByteArray), (((@ByteArray.size x) < 1099511627776) ∧ (((x = s) ∧ True) ∧ (True ∧ (∀ (y : Unit), (True → ((I64 (31 : Int)) ∧ (((0 : Int) ≤ (31 : Int)) ∧ (cP (BEq.beq (IntKind.wrap IntKind.u32 (((@BitVec.toNat 32 (@HAnd.hAnd (@BitVec 32) (@BitVec 32) (@BitVec 32) (@instHAndOfAndOp (@BitVec 32) (@BitVec.instAndOp 32)) (@BitVec.ofInt 32 (@Int.fdiv (@textM x) (2147483648 : Int))) (@BitVec.ofInt 32 (1 : Int)))) : Nat) : Int)) (0 : Int)) (∃ (y_1 : Unit), (True ∧ (((@levelM s) = (1 : Int)) ∧ True))) ((I64 (2 : Int)) ∧ ((I64 (1 : Int)) ∧ ((I64 (30 : Int)) ∧ (((0 : Int) ≤ (30 : Int)) ∧ (cP (BEq.beq (IntKind.wrap IntKind.u32 (((@BitVec.toNat 32 (@HAnd.hAnd (@BitVec 32) (@BitVec 32) (@BitVec 32) (@instHAndOfAndOp (@BitVec 32) (@BitVec.instAndOp 32)) (@BitVec.ofInt 32 (@Int.fdiv (@textM x) (1073741824 : Int))) (@BitVec.ofInt 32 (1 : Int)))) : Nat) : Int)) (0 : Int)) (∃ (y_1 : Unit), (True ∧ (((@levelM s) = (2 : Int)) ∧ True))) ((I64 (3 : Int)) ∧ ((I64 (2 : Int)) ∧ ((I64 (29 : Int)) ∧ (((0 : Int) ≤ (29 : Int)) ∧ (cP (BEq.beq (IntKind.wrap IntKind.u32 (((@BitVec.toNat 32 (@HAnd.hAnd (@BitVec 32) (@BitVec 32) (@BitVec 32) (@instHAndOfAndOp (@BitVec 32) (@BitVec.instAndOp 32)) (@BitVec.ofInt 32 (@Int.fdiv (@textM x) (536870912 : Int))) (@BitVec.ofInt 32 (1 : Int)))) : Nat) : Int)) (0 : Int)) (∃ (y_1 : Unit), (True ∧ (((@levelM s) = (3 : Int)) ∧ True))) ((I64 (4 : Int)) ∧ ((I64 (3 : Int)) ∧ (∃ (y_1 : Unit), (True ∧ (((@levelM s) = (4 : Int)) ∧ True))))))))))))))))))))))))
theorem levelVC_ok (s : ByteArray) : levelVC s = levelVC_wp s := by kernel_rfl
def rlevelVC_wp (s : ByteArray) : Prop := wpF Try.prog tblT tt noAn 200 5 108 (levelC.args s) (hO levelC.k (levelC.os s)) (fun v h' => endsP levelC.k s v h' levelC.outs)
def rlevelVC (s : ByteArray) : Prop :=
  (∃ (x : @ByteArray), (((@ByteArray.size x) < 1099511627776) ∧ (((x = s) ∧ True) ∧ (True ∧ (∀ (y : Unit), (True → (cP (decide (@GE.ge Int @Int.instLEInt (@textM x) (2147483648 : Int))) ((I64 (2 : Int)) ∧ (cP (decide (@GE.ge Int @Int.instLEInt (IntKind.wrap IntKind.u32 ((@textM x) * (2 : Int))) (2147483648 : Int))) ((I64 (3 : Int)) ∧ (cP (decide (@GE.ge Int @Int.instLEInt (IntKind.wrap IntKind.u32 ((IntKind.wrap IntKind.u32 ((@textM x) * (2 : Int))) * (2 : Int))) (2147483648 : Int))) ((I64 (4 : Int)) ∧ (∃ (y_1 : Unit), (True ∧ (((@levelM s) = (4 : Int)) ∧ True)))) (∃ (y_1 : Unit), (True ∧ (((@levelM s) = (3 : Int)) ∧ True))))) (∃ (y_1 : Unit), (True ∧ (((@levelM s) = (2 : Int)) ∧ True))))) (∃ (y_1 : Unit), (True ∧ (((@levelM s) = (1 : Int)) ∧ True))))))))))
theorem rlevelVC_ok (s : ByteArray) : rlevelVC s = rlevelVC_wp s := by kernel_rfl
def spanVC_wp (s : Int) : Prop := wpF Try.prog [] tt noAn 200 5 69 (spanC.args s) (hO spanC.k (spanC.os s)) (fun v h' => endsP spanC.k s v h' spanC.outs)
def spanVC (s : Int) : Prop :=
  (cP (decide (s < (0 : Int))) (∃ (y : Unit), (True ∧ (((@spanM s) = (0 : Int)) ∧ True))) (cP (decide (@GT.gt Int @Int.instLTInt s (3 : Int))) (∃ (y : Unit), (True ∧ (((@spanM s) = (0 : Int)) ∧ True))) (((0 : Int) ≤ s) ∧ (∃ (y : Unit), (True ∧ (((@spanM s) = (IntKind.wrap IntKind.i64 ((1 : Int) * (@HPow.hPow Int Nat Int (@instHPow Int Nat (@instPowNat Int @Int.instNatPow)) (2 : Int) (@Min.min Nat @instMinNat (Int.toNat s) 64))))) ∧ True))))))
theorem spanVC_ok (s : Int) : spanVC s = spanVC_wp s := by kernel_rfl
def rspanVC_wp (s : Int) : Prop := wpF Try.prog [] tt noAn 200 5 75 (spanC.args s) (hO spanC.k (spanC.os s)) (fun v h' => endsP spanC.k s v h' spanC.outs)
def rspanVC (s : Int) : Prop :=
  (cP (BEq.beq s (0 : Int)) (∃ (y : Unit), (True ∧ (((@spanM s) = (1 : Int)) ∧ True))) (cP (BEq.beq s (1 : Int)) (∃ (y : Unit), (True ∧ (((@spanM s) = (2 : Int)) ∧ True))) (cP (BEq.beq s (2 : Int)) (∃ (y : Unit), (True ∧ (((@spanM s) = (4 : Int)) ∧ True))) (cP (BEq.beq s (3 : Int)) (∃ (y : Unit), (True ∧ (((@spanM s) = (8 : Int)) ∧ True))) (∃ (y : Unit), (True ∧ (((@spanM s) = (0 : Int)) ∧ True)))))))
theorem rspanVC_ok (s : Int) : rspanVC s = rspanVC_wp s := by kernel_rfl
end Go.Proofs.Ytjndgegfonhhfaa
end
section
/- Places and classes: what is asked is so. -/
namespace Go.Proofs.Ytjndgegfonhhfaa
open Go SE
theorem bucketVC_true (s : BA) (hs : s.size < 1099511627776) : bucketVC s := by
  unfold bucketVC
  have := textM_U s
  have e : Int.tmod (textM s) 8 = textM s % 8 := Int.tmod_eq_emod_of_nonneg this.1
  refine ⟨s, hs, ⟨rfl, trivial⟩, trivial, fun _ _ => ⟨by omega, by rw [e]; unfold I64; omega, (), trivial, e.symm, trivial⟩⟩
theorem bits (c : Int) (h : U32 c) : (Int.fdiv c 2147483648 % 2 = 0 ↔ c < 2147483648) ∧ (Int.fdiv c 1073741824 % 2 = 0 ↔ dbl c < 2147483648) ∧ (Int.fdiv c 536870912 % 2 = 0 ↔ dbl (dbl c) < 2147483648) := by
  unfold U32 dbl at *
  rw [Int.fdiv_eq_ediv_of_nonneg _ (by omega), Int.fdiv_eq_ediv_of_nonneg _ (by omega), Int.fdiv_eq_ediv_of_nonneg _ (by omega)]
  omega
theorem levelVC_true (s : BA) (hs : s.size < 1099511627776) : levelVC s := by
  unfold levelVC
  obtain ⟨b1, b2, b3⟩ := bits _ (textM_U s)
  refine ⟨s, hs, ⟨rfl, trivial⟩, trivial, fun _ _ => ?_⟩
  have ha : ∀ c, IntKind.u32.wrap (((BitVec.ofInt 32 c &&& BitVec.ofInt 32 1).toNat : Nat) : Int) = c % 2 := and1
  simp only [ha, cP_iff, beq_iff_eq, beq_eq_false_iff_ne, I64_iff, unit_ex, true_and, and_true, ne_eq, b1, b2, b3, levelM]
  refine ⟨by omega, by omega, fun h => ?_, fun h => ⟨by omega, by omega, by omega, by omega, fun h2 => ?_, fun h2 => ⟨by omega, by omega, by omega, by omega, fun h3 => ?_, fun h3 => ⟨by omega, by omega, ?_⟩⟩⟩⟩ <;> simp [*]
theorem rlevelVC_true (s : BA) (hs : s.size < 1099511627776) : rlevelVC s := by
  unfold rlevelVC
  refine ⟨s, hs, ⟨rfl, trivial⟩, trivial, fun _ _ => ?_⟩
  have hU := textM_U s
  have hw : ∀ c, U32 c → IntKind.u32.wrap (c * 2) = dbl c ∧ U32 (dbl c) := fun c hc => by
    unfold IntKind.wrap dbl U32 at *
    simp [IntKind.bits, IntKind.signed]
    omega
  obtain ⟨e1, h1⟩ := hw _ hU
  obtain ⟨e2, h2⟩ := hw _ h1
  simp only [e1, e2, cP_iff, decide_eq_true_eq, decide_eq_false_iff_not, I64_iff, unit_ex, true_and, and_true, levelM]
  have hn : ∀ c : Int, c ≥ 2147483648 ↔ ¬ c < 2147483648 := fun c => by omega
  simp only [hn, Classical.not_not]
  refine ⟨fun h => ⟨by omega, fun h2 => ⟨by omega, fun h3 => ⟨by omega, ?_⟩, fun h3 => ?_⟩, fun h2 => ?_⟩, fun h => ?_⟩ <;> simp [*]
theorem spanVC_true (c : Int) : spanVC c := by
  unfold spanVC
  simp only [cP_iff, decide_eq_true_eq, decide_eq_false_iff_not, unit_ex, true_and, and_true, spanM]
  refine ⟨fun h => ?_, fun h => ⟨fun h2 => ?_, fun h2 => ⟨by omega, ?_⟩⟩⟩
  · simp [show c ≠ 0 by omega, show c ≠ 1 by omega, show c ≠ 2 by omega, show c ≠ 3 by omega]
  · simp [show c ≠ 0 by omega, show c ≠ 1 by omega, show c ≠ 2 by omega, show c ≠ 3 by omega]
  · rcases (by omega : c = 0 ∨ c = 1 ∨ c = 2 ∨ c = 3) with rfl | rfl | rfl | rfl <;> rfl
theorem rspanVC_true (c : Int) : rspanVC c := by
  unfold rspanVC
  simp only [cP_iff, beq_iff_eq, beq_eq_false_iff_ne, unit_ex, true_and, and_true, spanM]
  refine ⟨fun h => ?_, fun h => ⟨fun h2 => ?_, fun h2 => ⟨fun h3 => ?_, fun h3 => ⟨fun h4 => ?_, fun h4 => ?_⟩⟩⟩⟩ <;> simp [*]
theorem bucket_ok : CtrOk Try.prog 67 bucketC := det_end tt_ok mixed tblT_ok (fun _ => noAn) 200 5 (fun _ => rfl) (fun _ => rfl) fun x hx => Eq.mp (bucketVC_ok x) (bucketVC_true x hx)
theorem rbucket_ok : CtrOk Try.prog 74 bucketC := det_end tt_ok mixed tblT_ok (fun _ => noAn) 200 5 (fun _ => rfl) (fun _ => rfl) fun x hx => Eq.mp (rbucketVC_ok x) (bucketVC_true x hx)
theorem level_ok : CtrOk Try.prog 71 levelC := det_end tt_ok mixed tblT_ok (fun _ => noAn) 200 5 (fun _ => rfl) (fun _ => rfl) fun x hx => Eq.mp (levelVC_ok x) (levelVC_true x hx)
theorem rlevel_ok : CtrOk Try.prog 108 levelC := det_end tt_ok mixed tblT_ok (fun _ => noAn) 200 5 (fun _ => rfl) (fun _ => rfl) fun x hx => Eq.mp (rlevelVC_ok x) (rlevelVC_true x hx)
theorem span_ok : CtrOk Try.prog 69 spanC := det_end tt_ok mixed TblOk.nil (fun _ => noAn) 200 5 (fun _ => rfl) (fun _ => rfl) fun x _ => Eq.mp (spanVC_ok x) (spanVC_true x)
theorem rspan_ok : CtrOk Try.prog 75 spanC := det_end tt_ok mixed TblOk.nil (fun _ => noAn) 200 5 (fun _ => rfl) (fun _ => rfl) fun x _ => Eq.mp (rspanVC_ok x) (rspanVC_true x)
def tblU : WTbl := [(69, ctrT spanC), (75, ctrT spanC)]
theorem tblU_ok : TblOk Try.prog tblU := .cons (ctrT_ok span_ok) (.cons (ctrT_ok rspan_ok) .nil)
end Go.Proofs.Ytjndgegfonhhfaa
end
section
/- What is asked of sizes. -/
namespace Go.Proofs.Ytjndgegfonhhfaa
open Go SE
def anRNeed (s : Int) : FuncId → Anns := fun f => bif Nat.beq f 76 then (fun b fr h => bif Nat.beq b 0 then [{ σ := Nat, fr := fun i => [(3, i64 i)], ob := fun _ => [], inv := fun i => i ≤ 4 ∧ (s < 0 ∨ ∀ c : Nat, c < i → capM c < s), meas := fun i => 4 - i }] else []) else fun _ _ _ => []
def rcapVC_wp (s : Int) : Prop := wpF Try.prog tblU tt noAn 200 5 107 (capC.args s) (hO capC.k (capC.os s)) (fun v h' => endsP capC.k s v h' capC.outs)
def rcapVC (s : Int) : Prop :=
  (∃ (x : Int), (True ∧ (((x = s) ∧ True) ∧ (True ∧ (∀ (y : Unit), (True → (cP (BEq.beq (@spanM x) (0 : Int)) (∃ (y_1 : Unit), (True ∧ (((@capM s) = (0 : Int)) ∧ True))) ((I64 ((@spanM x) - (1 : Int))) ∧ ((I64 ((63 : Int) * ((@spanM x) - (1 : Int)))) ∧ ((I64 ((28 : Int) + ((63 : Int) * ((@spanM x) - (1 : Int))))) ∧ (∃ (y_1 : Unit), (True ∧ (((@capM s) = ((28 : Int) + ((63 : Int) * ((@spanM x) - (1 : Int))))) ∧ True)))))))))))))
theorem rcapVC_ok (s : Int) : rcapVC s = rcapVC_wp s := by kernel_rfl
def capVC_wp (s : Int) : Prop := wpF Try.prog tblU tt noAn 200 5 105 (capC.args s) (hO capC.k (capC.os s)) (fun v h' => endsP capC.k s v h' capC.outs)
def capVC (s : Int) : Prop :=
  (∃ (x : Int), (True ∧ (((x = s) ∧ True) ∧ (True ∧ (∀ (y : Unit), (True → (cP (decide (@GT.gt Int @Int.instLTInt (@spanM x) (0 : Int))) ((I64 ((@spanM x) - (1 : Int))) ∧ ((I64 (((@spanM x) - (1 : Int)) * (63 : Int))) ∧ ((I64 ((28 : Int) + (((@spanM x) - (1 : Int)) * (63 : Int)))) ∧ (∃ (y_1 : Unit), (True ∧ (((@capM s) = ((28 : Int) + (((@spanM x) - (1 : Int)) * (63 : Int)))) ∧ True)))))) (∃ (y_1 : Unit), (True ∧ (((@capM s) = (0 : Int)) ∧ True))))))))))
def needVC_wp (s : Int) : Prop := wpF Try.prog [] tt noAn 200 5 70 (needC.args s) (hO needC.k (needC.os s)) (fun v h' => endsP needC.k s v h' needC.outs)
def needVC (s : Int) : Prop :=
  (cP (decide (s < (0 : Int))) (∃ (y : Unit), (True ∧ (((@needM s) = (-(1 : Int))) ∧ True))) (((0 : Int) ≤ (0 : Int)) ∧ ((I64 (0 : Int)) ∧ ((I64 (0 : Int)) ∧ ((I64 (28 : Int)) ∧ (cP (decide (@GE.ge Int @Int.instLEInt (28 : Int) s)) (∃ (y : Unit), (True ∧ (((@needM s) = (0 : Int)) ∧ True))) ((I64 (1 : Int)) ∧ (((0 : Int) ≤ (1 : Int)) ∧ ((I64 (1 : Int)) ∧ ((I64 (63 : Int)) ∧ ((I64 (91 : Int)) ∧ (cP (decide (@GE.ge Int @Int.instLEInt (91 : Int) s)) (∃ (y : Unit), (True ∧ (((@needM s) = (1 : Int)) ∧ True))) ((I64 (2 : Int)) ∧ (((0 : Int) ≤ (2 : Int)) ∧ ((I64 (3 : Int)) ∧ ((I64 (189 : Int)) ∧ ((I64 (217 : Int)) ∧ (cP (decide (@GE.ge Int @Int.instLEInt (217 : Int) s)) (∃ (y : Unit), (True ∧ (((@needM s) = (2 : Int)) ∧ True))) ((I64 (3 : Int)) ∧ (((0 : Int) ≤ (3 : Int)) ∧ ((I64 (7 : Int)) ∧ ((I64 (441 : Int)) ∧ ((I64 (469 : Int)) ∧ (cP (decide (@GE.ge Int @Int.instLEInt (469 : Int) s)) (∃ (y : Unit), (True ∧ (((@needM s) = (3 : Int)) ∧ True))) ((I64 (4 : Int)) ∧ (∃ (y : Unit), (True ∧ (((@needM s) = (-(1 : Int))) ∧ True))))))))))))))))))))))))))))
theorem needVC_ok (s : Int) : needVC s = needVC_wp s := by kernel_rfl
def rneedVC_wp (s : Int) : Prop := wpF Try.prog [(107, ctrT capC)] tt (anRNeed s) 200 5 76 (needC.args s) (hO needC.k (needC.os s)) (fun v h' => endsP needC.k s v h' needC.outs)
def rneedVC (s : Int) : Prop :=
  ((∃ (s_1 : Nat), (((s_1 ≤ 4) ∧ ((s < (0 : Int)) ∨ (∀ (c : Nat), ((c < s_1) → ((@capM ((c : Nat) : Int)) < s))))) ∧ (True ∧ (((((s_1 : Nat) : Int) = (0 : Int)) ∧ True) ∧ True)))) ∧ ((∀ (s_1 : Nat), (((s_1 ≤ 4) ∧ ((s < (0 : Int)) ∨ (∀ (c : Nat), ((c < s_1) → ((@capM ((c : Nat) : Int)) < s))))) → (cP (decide (((s_1 : Nat) : Int) < (4 : Int))) (cP (decide (@GE.ge Int @Int.instLEInt s (0 : Int))) (∃ (x : Int), (True ∧ (((x = ((s_1 : Nat) : Int)) ∧ True) ∧ (True ∧ (∀ (y : Unit), (True → (cP (decide (@GE.ge Int @Int.instLEInt (@capM x) s)) (∃ (y_1 : Unit), (True ∧ (((@needM s) = ((s_1 : Nat) : Int)) ∧ True))) ((I64 (((s_1 : Nat) : Int) + (1 : Int))) ∧ (∃ (s_2 : Nat), (((s_2 ≤ 4) ∧ ((s < (0 : Int)) ∨ (∀ (c : Nat), ((c < s_2) → ((@capM ((c : Nat) : Int)) < s))))) ∧ (((4 - s_2) < (4 - s_1)) ∧ (((((s_2 : Nat) : Int) = (((s_1 : Nat) : Int) + (1 : Int))) ∧ True) ∧ True)))))))))))) ((I64 (((s_1 : Nat) : Int) + (1 : Int))) ∧ (∃ (s_2 : Nat), (((s_2 ≤ 4) ∧ ((s < (0 : Int)) ∨ (∀ (c : Nat), ((c < s_2) → ((@capM ((c : Nat) : Int)) < s))))) ∧ (((4 - s_2) < (4 - s_1)) ∧ (((((s_2 : Nat) : Int) = (((s_1 : Nat) : Int) + (1 : Int))) ∧ True) ∧ True)))))) (∃ (y : Unit), (True ∧ (((@needM s) = (-(1 : Int))) ∧ True)))))) ∧ True))
theorem rneedVC_ok (s : Int) : rneedVC s = rneedVC_wp s := by kernel_rfl
end Go.Proofs.Ytjndgegfonhhfaa
end
section
/- Sizes: what is asked is so. -/
namespace Go.Proofs.Ytjndgegfonhhfaa
open Go SE
theorem spanM_cases (c : Int) : (c = 0 ∧ spanM c = 1 ∧ capM c = 28) ∨ (c = 1 ∧ spanM c = 2 ∧ capM c = 91) ∨ (c = 2 ∧ spanM c = 4 ∧ capM c = 217) ∨ (c = 3 ∧ spanM c = 8 ∧ capM c = 469) ∨ ((c < 0 ∨ 3 < c) ∧ spanM c = 0 ∧ capM c = 0) := by
  by_cases h0 : c = 0
  · subst h0; simp [spanM, capM]
  by_cases h1 : c = 1
  · subst h1; simp [spanM, capM]
  by_cases h2 : c = 2
  · subst h2; simp [spanM, capM]
  by_cases h3 : c = 3
  · subst h3; simp [spanM, capM]
  · simp [spanM, capM, h0, h1, h2, h3]; omega
theorem rcapVC_true (c : Int) : rcapVC c := by
  unfold rcapVC
  refine ⟨c, trivial, ⟨rfl, trivial⟩, trivial, fun _ _ => ?_⟩
  simp only [cP_iff, beq_iff_eq, beq_eq_false_iff_ne, unit_ex, true_and, and_true, I64_iff]
  have := spanM_cases c
  omega
theorem needM_cases (n : Int) : (n < 0 ∧ needM n = -1) ∨ (0 ≤ n ∧ n ≤ 28 ∧ needM n = 0) ∨ (28 < n ∧ n ≤ 91 ∧ needM n = 1) ∨ (91 < n ∧ n ≤ 217 ∧ needM n = 2) ∨ (217 < n ∧ n ≤ 469 ∧ needM n = 3) ∨ (469 < n ∧ needM n = -1) := by
  unfold needM
  by_cases h : n < 0
  · simp [h]
  by_cases h0 : n ≤ 28
  · simp [h, h0]; omega
  by_cases h1 : n ≤ 91
  · simp [h, h0, h1]; omega
  by_cases h2 : n ≤ 217
  · simp [h, h0, h1, h2]; omega
  by_cases h3 : n ≤ 469
  · simp [h, h0, h1, h2, h3]; omega
  · simp [h, h0, h1, h2, h3]; omega
theorem needVC_true (n : Int) : needVC n := by
  unfold needVC
  simp only [cP_iff, decide_eq_true_eq, decide_eq_false_iff_not, unit_ex, true_and, and_true, I64_iff]
  have := needM_cases n
  omega
theorem rneedVC_true (n : Int) : rneedVC n := by
  unfold rneedVC
  simp only [unit_ex, unit_all, true_and, and_true, true_implies]
  have hc : capM 0 = 28 ∧ capM 1 = 91 ∧ capM 2 = 217 ∧ capM 3 = 469 := ⟨rfl, rfl, rfl, rfl⟩
  have hn := needM_cases n
  refine ⟨⟨0, ⟨by omega, .inr fun c hc => by omega⟩, rfl⟩, fun i hi => cP_intro (fun hb => ?_) (fun hb => ?_)⟩
  · have hb := of_decide_eq_true hb
    have hall : 0 ≤ n → ∀ c : Nat, c < i → capM c < n := fun h => hi.2.resolve_left (by omega)
    refine cP_intro (fun h0 => ⟨i, rfl, cP_intro (fun h1 => ?_) (fun h1 => ⟨by unfold I64; omega, i + 1, ⟨by omega, .inr fun c hc => ?_⟩, by omega, by omega⟩)⟩) (fun h0 => ?_)
    · have h0 := of_decide_eq_true h0
      have h1 := of_decide_eq_true h1
      have hall := hall h0
      rcases (by omega : i = 0 ∨ i = 1 ∨ i = 2 ∨ i = 3) with rfl | rfl | rfl | rfl
      · simp only [Int.natCast_zero, hc.1] at h1; omega
      · have := hall 0 (by omega); simp only [Int.natCast_zero, hc.1] at this; simp only [Int.natCast_one, hc.2.1] at h1; omega
      · have := hall 1 (by omega); simp only [Int.natCast_one, hc.2.1] at this; have h1 : capM 2 ≥ n := h1; omega
      · have : capM 2 < n := hall 2 (by omega); have h1 : capM 3 ≥ n := h1; omega
    · have h0 := of_decide_eq_true h0
      have h1 := of_decide_eq_false h1
      rcases Nat.lt_or_ge c i with h | h
      · exact hall h0 c h
      · have : c = i := by omega
        subst this; omega
    · have h0 := of_decide_eq_false h0
      exact ⟨by unfold I64; omega, i + 1, ⟨by omega, .inl (by omega)⟩, by omega, by omega⟩
  · have : i = 4 := by have := of_decide_eq_false hb; omega
    subst this
    rcases hi.2 with h | h
    · omega
    · have : capM 3 < n := h 3 (by omega)
      omega
theorem rcap_ok : CtrOk Try.prog 107 capC := det_end tt_ok mixed tblU_ok (fun _ => noAn) 200 5 (fun _ => rfl) (fun _ => rfl) fun x _ => Eq.mp (rcapVC_ok x) (rcapVC_true x)
theorem need_ok : CtrOk Try.prog 70 needC := det_end tt_ok mixed TblOk.nil (fun _ => noAn) 200 5 (fun _ => rfl) (fun _ => rfl) fun x _ => Eq.mp (needVC_ok x) (needVC_true x)
theorem rneed_ok : CtrOk Try.prog 76 needC := det_end tt_ok mixed (.cons (ctrT_ok rcap_ok) .nil) anRNeed 200 5 (fun _ => rfl) (fun _ => rfl) fun x _ => Eq.mp (rneedVC_ok x) (rneedVC_true x)
end Go.Proofs.Ytjndgegfonhhfaa
end
section
/- Stores, read: contracts. -/
namespace Go.Proofs.Ytjndgegfonhhfaa
open Go SE
noncomputable section
def Shf.os (s : Shf) : List AObj := [.ro (rowP s), .ro (rowQ s)]
structure SK where
  s : Shf
  key : BA
def SK.ok (x : SK) : Prop := x.s.small ∧ x.key.size ≤ 1500
def findC : Ctr := det SK (fun x => [x.s.av 0 1, str x.key]) 2 (fun x => x.s.os) (fun x => Hd x.ok) (fun x => i64 (findM x.s x.key)) 2 (fun x => x.s.os)
def seekC : Ctr := det SK (fun x => [x.s.av 0 1, str x.key]) 2 (fun x => x.s.os) (fun x => Hd x.ok) (fun x => i64 (seekM x.s x.key)) 2 (fun x => x.s.os)
def mayC : Ctr := det Shf (fun s => [s.av 0 1]) 2 Shf.os (fun s => Hd s.small) (fun s => boo (mayM s)) 2 Shf.os
def getM (s : Shf) (key : BA) : BA := bif hadM s key then s.pv (placeM s key) else ByteArray.mk #[]
def placeI (s : Shf) (key : BA) : Int := bif hadM s key then (placeM s key : Nat) else -1
def getC : Ctr := det SK (fun x => [x.s.av 0 1, str x.key]) 2 (fun x => x.s.os) (fun x => Hd x.ok) (fun x => .tup [str (getM x.s x.key), boo (hadM x.s x.key)]) 2 (fun x => x.s.os)
def placeC : Ctr := det SK (fun x => [x.s.av 0 1, str x.key]) 2 (fun x => x.s.os) (fun x => Hd x.ok) (fun x => i64 (placeI x.s x.key)) 2 (fun x => x.s.os)
def tblV : WTbl := [(67, ctrT bucketC), (74, ctrT bucketC), (71, ctrT levelC), (108, ctrT levelC)]
theorem tblV_ok : TblOk Try.prog tblV := .cons (ctrT_ok bucket_ok) (.cons (ctrT_ok rbucket_ok) (.cons (ctrT_ok level_ok) (.cons (ctrT_ok rlevel_ok) .nil)))
/-- Loops of one number. -/
def loopN (f b : Nat) (fr : Nat → List (Nat × AV)) (inv : Nat → Prop) (n : Nat) : FuncId → Anns := fun g => bif Nat.beq g f then (fun b' _ _ => bif Nat.beq b' b then [{ σ := Nat, fr := fr, ob := fun _ => [], inv := fun i => i ≤ n ∧ inv i, meas := fun i => n - i }] else []) else fun _ _ _ => []
def anFind (x : SK) : FuncId → Anns := loopN 35 0 (fun i => [(11, i64 i), (5, i64 (1 + (cntM (nearM x.s x.key) i : Nat)))]) (fun _ => True) x.s.n
def anRFind (x : SK) : FuncId → Anns := loopN 46 0 (fun i => [(6, i64 i), (5, i64 (1 + (cntM (nearM x.s x.key) i : Nat)))]) (fun _ => True) x.s.n
def anSeek (f : FuncId) (x : SK) : FuncId → Anns := fun g => bif Nat.beq g f then (fun b fr _ => bif Nat.beq b 0 then
  [{ σ := Nat, fr := fun k => [(7, i64 (4 - k)), (5, i64 (skS x.s x.key k).1), (6, i64 ((skS x.s x.key k).2 : Nat))], ob := fun _ => [], inv := fun k => k ≤ 4, meas := fun k => 4 - k }] else bif Nat.beq b 2 then
  [{ σ := Nat, fr := fun j => [(8, i64 ((intAt fr 6).toNat + j : Nat)), (5, i64 (skN (fun i => levelM (x.s.pk i)) (intAt fr 7) (intAt fr 6).toNat (intAt fr 5) j)), (6, i64 (skA (fun i => levelM (x.s.pk i)) (intAt fr 7) (intAt fr 6).toNat j : Nat))], ob := fun _ => [],
     inv := fun j => j ≤ skJ x.s x.key (intAt fr 6).toNat, meas := fun j => x.s.n - j }] else []) else fun _ _ _ => []
def anMay (s : Shf) : FuncId → Anns := loopN 16 0 (fun i => [(8, i64 i)]) (fun i => ∀ j, j < i → 1 ≤ j → lsB (s.pk (j - 1)) (s.pk j) = true) s.n
def anRMay (s : Shf) : FuncId → Anns := fun g => bif Nat.beq g 43 then (fun b _ _ => bif Nat.beq b 0 then [{ σ := Nat, fr := fun i => [(3, i64 i)], ob := fun _ => [], inv := fun i => 1 ≤ i ∧ (s.n = 0 ∨ i ≤ s.n) ∧ ∀ j, j < i → 1 ≤ j → lsB (s.pk (j - 1)) (s.pk j) = true, meas := fun i => s.n - i }] else []) else fun _ _ _ => []
def anPlace (x : SK) : FuncId → Anns := loopN 103 0 (fun i => [(8, i64 i)]) (fun i => ∀ j, j < i → eqB (x.s.pk j) x.key = false) x.s.n
def anRGet (x : SK) : FuncId → Anns := loopN 45 0 (fun i => [(6, i64 i)]) (fun i => ∀ j, j < i → eqB (x.s.pk j) x.key = false) x.s.n
end
end Go.Proofs.Ytjndgegfonhhfaa
end
section
/- What is asked of stores that are read. -/
namespace Go.Proofs.Ytjndgegfonhhfaa
open Go SE
def findVC_wp (x : SK) : Prop := wpF Try.prog tblV tt (anFind x) 200 5 35 (findC.args x) (hO findC.k (findC.os x)) (fun v h' => endsP findC.k x v h' findC.outs)
def findVC (x : SK) : Prop :=
  ((∃ (s : Nat), (((s ≤ x.s.n) ∧ True) ∧ (True ∧ (((((s : Nat) : Int) = (0 : Int)) ∧ ((((1 : Int) + (((@cntM (@nearM x.s x.key) s) : Nat) : Int)) = (1 : Int)) ∧ True)) ∧ ((((0 = 0) ∧ (x.s.n = x.s.n)) ∧ (((0 = 0) ∧ (x.s.m = x.s.m)) ∧ True)) ∧ ((((@rowQ x.s) = (@rowQ x.s)) ∧ (Bool.true = Bool.true)) ∧ ((((rowP x.s) = (rowP x.s)) ∧ (Bool.true = Bool.true)) ∧ True))))))) ∧ ((∀ (s : Nat), (((s ≤ x.s.n) ∧ True) → (cP (decide (((s : Nat) : Int) < ((x.s.n : Nat) : Int))) ((((0 : Int) ≤ ((s : Nat) : Int)) ∧ (((s : Nat) : Int) < ((x.s.n : Nat) : Int))) ∧ (((0 + s) < x.s.n) ∧ (cP (@Op.bytesLess (@ByteArray.toList (@Shf.pk x.s (0 + s))) (@ByteArray.toList x.key)) (∃ (x_1 : @ByteArray), (((@ByteArray.size x_1) < 1099511627776) ∧ (((x_1 = (@Shf.pk x.s (0 + s))) ∧ True) ∧ (True ∧ (∀ (y : Unit), (True → (∃ (x_2 : @ByteArray), (((@ByteArray.size x_2) < 1099511627776) ∧ (((x_2 = x.key) ∧ True) ∧ (True ∧ (∀ (y_1 : Unit), (True → (cP (BEq.beq (@bucketM x_1) (@bucketM x_2)) ((I64 (((1 : Int) + (((@cntM (@nearM x.s x.key) s) : Nat) : Int)) + (1 : Int))) ∧ ((I64 (((s : Nat) : Int) + (1 : Int))) ∧ (∃ (s_1 : Nat), (((s_1 ≤ x.s.n) ∧ True) ∧ (((x.s.n - s_1) < (x.s.n - s)) ∧ (((((s_1 : Nat) : Int) = (((s : Nat) : Int) + (1 : Int))) ∧ ((((1 : Int) + (((@cntM (@nearM x.s x.key) s_1) : Nat) : Int)) = (((1 : Int) + (((@cntM (@nearM x.s x.key) s) : Nat) : Int)) + (1 : Int))) ∧ True)) ∧ ((((0 = 0) ∧ (x.s.n = x.s.n)) ∧ (((0 = 0) ∧ (x.s.m = x.s.m)) ∧ True)) ∧ ((((@rowQ x.s) = (@rowQ x.s)) ∧ (Bool.true = Bool.true)) ∧
 ((((rowP x.s) = (rowP x.s)) ∧ (Bool.true = Bool.true)) ∧ True))))))))) ((I64 (((s : Nat) : Int) + (1 : Int))) ∧ (∃ (s_1 : Nat), (((s_1 ≤ x.s.n) ∧ True) ∧ (((x.s.n - s_1) < (x.s.n - s)) ∧ (((((s_1 : Nat) : Int) = (((s : Nat) : Int) + (1 : Int))) ∧ ((((1 : Int) + (((@cntM (@nearM x.s x.key) s_1) : Nat) : Int)) = ((1 : Int) + (((@cntM (@nearM x.s x.key) s) : Nat) : Int))) ∧ True)) ∧ ((((0 = 0) ∧ (x.s.n = x.s.n)) ∧ (((0 = 0) ∧ (x.s.m = x.s.m)) ∧ True)) ∧ ((((@rowQ x.s) = (@rowQ x.s)) ∧ (Bool.true = Bool.true)) ∧ ((((rowP x.s) = (rowP x.s)) ∧ (Bool.true = Bool.true)) ∧ True))))))))))))))))))))) ((I64 (((s : Nat) : Int) + (1 : Int))) ∧ (∃ (s_1 : Nat), (((s_1 ≤ x.s.n) ∧ True) ∧ (((x.s.n - s_1) < (x.s.n - s)) ∧ (((((s_1 : Nat) : Int) = (((s : Nat) : Int) + (1 : Int))) ∧ ((((1 : Int) + (((@cntM (@nearM x.s x.key) s_1) : Nat) : Int)) = ((1 : Int) + (((@cntM (@nearM x.s x.key) s) : Nat) : Int))) ∧ True)) ∧ ((((0 = 0) ∧ (x.s.n = x.s.n)) ∧ (((0 = 0) ∧ (x.s.m = x.s.m)) ∧ True)) ∧ ((((@rowQ x.s) = (@rowQ x.s)) ∧ (Bool.true = Bool.true)) ∧ ((((rowP x.s) = (rowP x.s)) ∧ (Bool.true = Bool.true)) ∧ True))))))))))) (∃ (y : Unit), (True ∧ (((@findM x.s x.key) = ((1 : Int) + (((@cntM (@nearM x.s x.key) s) : Nat) : Int))) ∧ ((((rowP x.s) = (rowP x.s)) ∧ (Bool.true = Bool.true)) ∧ ((((@rowQ x.s) = (@rowQ x.s)) ∧ (Bool.true = Bool.true)) ∧ True)))))))) ∧ True))
theorem findVC_ok (x : SK) : findVC x = findVC_wp x := by kernel_rfl
def rfindVC_wp (x : SK) : Prop := wpF Try.prog tblV tt (anRFind x) 200 5 46 (findC.args x) (hO findC.k (findC.os x)) (fun v h' => endsP findC.k x v h' findC.outs)
def rfindVC (x : SK) : Prop :=
  ((∃ (s : Nat), (((s ≤ x.s.n) ∧ True) ∧ (True ∧ (((((s : Nat) : Int) = (0 : Int)) ∧ ((((1 : Int) + (((@cntM (@nearM x.s x.key) s) : Nat) : Int)) = (1 : Int)) ∧ True)) ∧ ((((0 = 0) ∧ (x.s.n = x.s.n)) ∧ (((0 = 0) ∧ (x.s.m = x.s.m)) ∧ True)) ∧ ((((@rowQ x.s) = (@rowQ x.s)) ∧ (Bool.true = Bool.true)) ∧ ((((rowP x.s) = (rowP x.s)) ∧ (Bool.true = Bool.true)) ∧ True))))))) ∧ ((∀ (s : Nat), (((s ≤ x.s.n) ∧ True) → (cP (decide (((s : Nat) : Int) < ((x.s.n : Nat) : Int))) ((((0 : Int) ≤ ((s : Nat) : Int)) ∧ (((s : Nat) : Int) < ((x.s.n : Nat) : Int))) ∧ (((0 + s) < x.s.n) ∧ (cP (@Op.bytesLess (@ByteArray.toList (@Shf.pk x.s (0 + s))) (@ByteArray.toList x.key)) (∃ (x_1 : @ByteArray), (((@ByteArray.size x_1) < 1099511627776) ∧ (((x_1 = (@Shf.pk x.s (0 + s))) ∧ True) ∧ (True ∧ (∀ (y : Unit), (True → (∃ (x_2 : @ByteArray), (((@ByteArray.size x_2) < 1099511627776) ∧ (((x_2 = x.key) ∧ True) ∧ (True ∧ (∀ (y_1 : Unit), (True → (cP (BEq.beq (@bucketM x_1) (@bucketM x_2)) ((I64 (((1 : Int) + (((@cntM (@nearM x.s x.key) s) : Nat) : Int)) + (1 : Int))) ∧ ((I64 (((s : Nat) : Int) + (1 : Int))) ∧ (∃ (s_1 : Nat), (((s_1 ≤ x.s.n) ∧ True) ∧ (((x.s.n - s_1) < (x.s.n - s)) ∧ (((((s_1 : Nat) : Int) = (((s : Nat) : Int) + (1 : Int))) ∧ ((((1 : Int) + (((@cntM (@nearM x.s x.key) s_1) : Nat) : Int)) = (((1 : Int) + (((@cntM (@nearM x.s x.key) s) : Nat) : Int)) + (1 : Int))) ∧ True)) ∧ ((((0 = 0) ∧ (x.s.n = x.s.n)) ∧ (((0 = 0) ∧ (x.s.m = x.s.m)) ∧ True)) ∧ ((((@rowQ x.s) = (@rowQ x.s)) ∧ (Bool.true = Bool.true)) ∧
 ((((rowP x.s) = (rowP x.s)) ∧ (Bool.true = Bool.true)) ∧ True))))))))) ((I64 (((s : Nat) : Int) + (1 : Int))) ∧ (∃ (s_1 : Nat), (((s_1 ≤ x.s.n) ∧ True) ∧ (((x.s.n - s_1) < (x.s.n - s)) ∧ (((((s_1 : Nat) : Int) = (((s : Nat) : Int) + (1 : Int))) ∧ ((((1 : Int) + (((@cntM (@nearM x.s x.key) s_1) : Nat) : Int)) = ((1 : Int) + (((@cntM (@nearM x.s x.key) s) : Nat) : Int))) ∧ True)) ∧ ((((0 = 0) ∧ (x.s.n = x.s.n)) ∧ (((0 = 0) ∧ (x.s.m = x.s.m)) ∧ True)) ∧ ((((@rowQ x.s) = (@rowQ x.s)) ∧ (Bool.true = Bool.true)) ∧ ((((rowP x.s) = (rowP x.s)) ∧ (Bool.true = Bool.true)) ∧ True))))))))))))))))))))) ((I64 (((s : Nat) : Int) + (1 : Int))) ∧ (∃ (s_1 : Nat), (((s_1 ≤ x.s.n) ∧ True) ∧ (((x.s.n - s_1) < (x.s.n - s)) ∧ (((((s_1 : Nat) : Int) = (((s : Nat) : Int) + (1 : Int))) ∧ ((((1 : Int) + (((@cntM (@nearM x.s x.key) s_1) : Nat) : Int)) = ((1 : Int) + (((@cntM (@nearM x.s x.key) s) : Nat) : Int))) ∧ True)) ∧ ((((0 = 0) ∧ (x.s.n = x.s.n)) ∧ (((0 = 0) ∧ (x.s.m = x.s.m)) ∧ True)) ∧ ((((@rowQ x.s) = (@rowQ x.s)) ∧ (Bool.true = Bool.true)) ∧ ((((rowP x.s) = (rowP x.s)) ∧ (Bool.true = Bool.true)) ∧ True))))))))))) (∃ (y : Unit), (True ∧ (((@findM x.s x.key) = ((1 : Int) + (((@cntM (@nearM x.s x.key) s) : Nat) : Int))) ∧ ((((rowP x.s) = (rowP x.s)) ∧ (Bool.true = Bool.true)) ∧ ((((@rowQ x.s) = (@rowQ x.s)) ∧ (Bool.true = Bool.true)) ∧ True)))))))) ∧ True))
theorem rfindVC_ok (x : SK) : rfindVC x = rfindVC_wp x := by kernel_rfl
def seekVC_wp (x : SK) : Prop := wpF Try.prog tblV tt (anSeek 41 x) 200 5 41 (seekC.args x) (hO seekC.k (seekC.os x)) (fun v h' => endsP seekC.k x v h' seekC.outs)
def seekVC (x : SK) : Prop :=
  ((∃ (s : Nat), ((s ≤ 4) ∧ (True ∧ (((((4 : Int) - ((s : Nat) : Int)) = (4 : Int)) ∧ (((Prod.fst (@skS x.s x.key s)) = (0 : Int)) ∧ (((((Prod.snd (@skS x.s x.key s)) : Nat) : Int) = (0 : Int)) ∧ True))) ∧ ((((0 = 0) ∧ (x.s.n = x.s.n)) ∧ (((0 = 0) ∧ (x.s.m = x.s.m)) ∧ True)) ∧ ((((@rowQ x.s) = (@rowQ x.s)) ∧ (Bool.true = Bool.true)) ∧ ((((rowP x.s) = (rowP x.s)) ∧ (Bool.true = Bool.true)) ∧ True))))))) ∧ ((∀ (s : Nat), ((s ≤ 4) → (cP (decide (@GE.ge Int @Int.instLEInt ((4 : Int) - ((s : Nat) : Int)) (1 : Int))) ((I64 ((Prod.fst (@skS x.s x.key s)) + (1 : Int))) ∧ ((∃ (s_1 : Nat), ((s_1 ≤ (@skJ x.s x.key (Int.toNat (((Prod.snd (@skS x.s x.key s)) : Nat) : Int)))) ∧ (True ∧ (((((((Int.toNat (((Prod.snd (@skS x.s x.key s)) : Nat) : Int)) + s_1) : Nat) : Int) = (((Prod.snd (@skS x.s x.key s)) : Nat) : Int)) ∧ (((@skN (fun (i : Nat) => (@levelM (@Shf.pk x.s i))) ((4 : Int) - ((s : Nat) : Int)) (Int.toNat (((Prod.snd (@skS x.s x.key s)) : Nat) : Int)) ((Prod.fst (@skS x.s x.key s)) + (1 : Int)) s_1) = ((Prod.fst (@skS x.s x.key s)) + (1 : Int))) ∧ (((((@skA (fun (i : Nat) => (@levelM (@Shf.pk x.s i))) ((4 : Int) - ((s : Nat) : Int)) (Int.toNat (((Prod.snd (@skS x.s x.key s)) : Nat) : Int)) s_1) : Nat) : Int) = (((Prod.snd (@skS x.s x.key s)) : Nat) : Int)) ∧ True))) ∧ ((((0 = 0) ∧ (x.s.n = x.s.n)) ∧ (((0 = 0) ∧ (x.s.m = x.s.m)) ∧ True)) ∧ ((((@rowQ x.s) = (@rowQ x.s)) ∧ (Bool.true = Bool.true)) ∧ ((((rowP x.s) = (rowP x.s)) ∧ (Bool.true = Bool.true)) ∧ True))))))) ∧ ((∀ (s_1 : Nat), ((s_1 ≤ (@skJ x.s x.key (Int.toNat (((Prod.snd (@skS x.s x.key s)) : Nat) : Int)))) → (cP (decide (((((Prod.snd (@skS x.s x.key s)) + s_1) : Nat) : Int) < ((x.s.n : Nat) : Int))) ((((0 : Int) ≤ ((((Prod.snd (@skS x.s x.key s)) + s_1) : Nat) : Int)) ∧
 (((((Prod.snd (@skS x.s x.key s)) + s_1) : Nat) : Int) < ((x.s.n : Nat) : Int))) ∧ (((0 + ((Prod.snd (@skS x.s x.key s)) + s_1)) < x.s.n) ∧ (cP (@Op.bytesLess (@ByteArray.toList (@Shf.pk x.s (0 + ((Prod.snd (@skS x.s x.key s)) + s_1)))) (@ByteArray.toList x.key)) ((((0 : Int) ≤ ((((Prod.snd (@skS x.s x.key s)) + s_1) : Nat) : Int)) ∧ (((((Prod.snd (@skS x.s x.key s)) + s_1) : Nat) : Int) < ((x.s.n : Nat) : Int))) ∧ (((0 + ((Prod.snd (@skS x.s x.key s)) + s_1)) < x.s.n) ∧ (∃ (x_1 : @ByteArray), (((@ByteArray.size x_1) < 1099511627776) ∧ (((x_1 = (@Shf.pk x.s (0 + ((Prod.snd (@skS x.s x.key s)) + s_1)))) ∧ True) ∧ (True ∧ (∀ (y : Unit), (True → (cP (decide (@GE.ge Int @Int.instLEInt (@levelM x_1) ((4 : Int) - ((s : Nat) : Int)))) ((I64 ((@skN (fun (i : Nat) => (@levelM (@Shf.pk x.s i))) ((4 : Int) - ((s : Nat) : Int)) (Prod.snd (@skS x.s x.key s)) ((Prod.fst (@skS x.s x.key s)) + (1 : Int)) s_1) + (1 : Int))) ∧ ((I64 (((((Prod.snd (@skS x.s x.key s)) + s_1) : Nat) : Int) + (1 : Int))) ∧ ((I64 (((((Prod.snd (@skS x.s x.key s)) + s_1) : Nat) : Int) + (1 : Int))) ∧ (∃ (s_2 : Nat), ((s_2 ≤ (@skJ x.s x.key (Int.toNat (((Prod.snd (@skS x.s x.key s)) : Nat) : Int)))) ∧ (((x.s.n - s_2) < (x.s.n - s_1)) ∧ (((((((Int.toNat (((Prod.snd (@skS x.s x.key s)) : Nat) : Int)) + s_2) : Nat) : Int) = (((((Prod.snd (@skS x.s x.key s)) + s_1) : Nat) : Int) + (1 : Int))) ∧ (((@skN (fun (i : Nat) => (@levelM (@Shf.pk x.s i))) ((4 : Int) - ((s : Nat) : Int)) (Int.toNat (((Prod.snd (@skS x.s x.key s)) : Nat) : Int)) ((Prod.fst (@skS x.s x.key s)) + (1 : Int)) s_2) = ((@skN (fun (i : Nat) => (@levelM (@Shf.pk x.s i))) ((4 : Int) - ((s : Nat) : Int)) (Prod.snd (@skS x.s x.key s)) ((Prod.fst (@skS x.s x.key s)) + (1 : Int)) s_1) + (1 : Int))) ∧
 (((((@skA (fun (i : Nat) => (@levelM (@Shf.pk x.s i))) ((4 : Int) - ((s : Nat) : Int)) (Int.toNat (((Prod.snd (@skS x.s x.key s)) : Nat) : Int)) s_2) : Nat) : Int) = (((((Prod.snd (@skS x.s x.key s)) + s_1) : Nat) : Int) + (1 : Int))) ∧ True))) ∧ ((((0 = 0) ∧ (x.s.n = x.s.n)) ∧ (((0 = 0) ∧ (x.s.m = x.s.m)) ∧ True)) ∧ ((((@rowQ x.s) = (@rowQ x.s)) ∧ (Bool.true = Bool.true)) ∧ ((((rowP x.s) = (rowP x.s)) ∧ (Bool.true = Bool.true)) ∧ True)))))))))) ((I64 (((((Prod.snd (@skS x.s x.key s)) + s_1) : Nat) : Int) + (1 : Int))) ∧ (∃ (s_2 : Nat), ((s_2 ≤ (@skJ x.s x.key (Int.toNat (((Prod.snd (@skS x.s x.key s)) : Nat) : Int)))) ∧ (((x.s.n - s_2) < (x.s.n - s_1)) ∧ (((((((Int.toNat (((Prod.snd (@skS x.s x.key s)) : Nat) : Int)) + s_2) : Nat) : Int) = (((((Prod.snd (@skS x.s x.key s)) + s_1) : Nat) : Int) + (1 : Int))) ∧ (((@skN (fun (i : Nat) => (@levelM (@Shf.pk x.s i))) ((4 : Int) - ((s : Nat) : Int)) (Int.toNat (((Prod.snd (@skS x.s x.key s)) : Nat) : Int)) ((Prod.fst (@skS x.s x.key s)) + (1 : Int)) s_2) = (@skN (fun (i : Nat) => (@levelM (@Shf.pk x.s i))) ((4 : Int) - ((s : Nat) : Int)) (Prod.snd (@skS x.s x.key s)) ((Prod.fst (@skS x.s x.key s)) + (1 : Int)) s_1)) ∧ (((((@skA (fun (i : Nat) => (@levelM (@Shf.pk x.s i))) ((4 : Int) - ((s : Nat) : Int)) (Int.toNat (((Prod.snd (@skS x.s x.key s)) : Nat) : Int)) s_2) : Nat) : Int) = (((@skA (fun (i : Nat) => (@levelM (@Shf.pk x.s i))) ((4 : Int) - ((s : Nat) : Int)) (Prod.snd (@skS x.s x.key s)) s_1) : Nat) : Int)) ∧ True))) ∧ ((((0 = 0) ∧
 (x.s.n = x.s.n)) ∧ (((0 = 0) ∧ (x.s.m = x.s.m)) ∧ True)) ∧ ((((@rowQ x.s) = (@rowQ x.s)) ∧ (Bool.true = Bool.true)) ∧ ((((rowP x.s) = (rowP x.s)) ∧ (Bool.true = Bool.true)) ∧ True))))))))))))))))) ((I64 (((4 : Int) - ((s : Nat) : Int)) - (1 : Int))) ∧ (∃ (s_2 : Nat), ((s_2 ≤ 4) ∧ (((4 - s_2) < (4 - s)) ∧ (((((4 : Int) - ((s_2 : Nat) : Int)) = (((4 : Int) - ((s : Nat) : Int)) - (1 : Int))) ∧ (((Prod.fst (@skS x.s x.key s_2)) = (@skN (fun (i : Nat) => (@levelM (@Shf.pk x.s i))) ((4 : Int) - ((s : Nat) : Int)) (Prod.snd (@skS x.s x.key s)) ((Prod.fst (@skS x.s x.key s)) + (1 : Int)) s_1)) ∧ (((((Prod.snd (@skS x.s x.key s_2)) : Nat) : Int) = (((@skA (fun (i : Nat) => (@levelM (@Shf.pk x.s i))) ((4 : Int) - ((s : Nat) : Int)) (Prod.snd (@skS x.s x.key s)) s_1) : Nat) : Int)) ∧ True))) ∧ ((((0 = 0) ∧ (x.s.n = x.s.n)) ∧ (((0 = 0) ∧ (x.s.m = x.s.m)) ∧ True)) ∧ ((((@rowQ x.s) = (@rowQ x.s)) ∧ (Bool.true = Bool.true)) ∧ ((((rowP x.s) = (rowP x.s)) ∧ (Bool.true = Bool.true)) ∧ True))))))))))) ((I64 (((4 : Int) - ((s : Nat) : Int)) - (1 : Int))) ∧ (∃ (s_2 : Nat), ((s_2 ≤ 4) ∧ (((4 - s_2) < (4 - s)) ∧ (((((4 : Int) - ((s_2 : Nat) : Int)) = (((4 : Int) - ((s : Nat) : Int)) - (1 : Int))) ∧ (((Prod.fst (@skS x.s x.key s_2)) = (@skN (fun (i : Nat) => (@levelM (@Shf.pk x.s i))) ((4 : Int) - ((s : Nat) : Int)) (Prod.snd (@skS x.s x.key s)) ((Prod.fst (@skS x.s x.key s)) + (1 : Int)) s_1)) ∧ (((((Prod.snd (@skS x.s x.key s_2)) : Nat) : Int) = (((@skA (fun (i : Nat) => (@levelM (@Shf.pk x.s i))) ((4 : Int) - ((s : Nat) : Int)) (Prod.snd (@skS x.s x.key s)) s_1) : Nat) : Int)) ∧
 True))) ∧ ((((0 = 0) ∧ (x.s.n = x.s.n)) ∧ (((0 = 0) ∧ (x.s.m = x.s.m)) ∧ True)) ∧ ((((@rowQ x.s) = (@rowQ x.s)) ∧ (Bool.true = Bool.true)) ∧ ((((rowP x.s) = (rowP x.s)) ∧ (Bool.true = Bool.true)) ∧ True))))))))))) ∧ True))) (∃ (y : Unit), (True ∧ (((@seekM x.s x.key) = (Prod.fst (@skS x.s x.key s))) ∧ ((((rowP x.s) = (rowP x.s)) ∧ (Bool.true = Bool.true)) ∧ ((((@rowQ x.s) = (@rowQ x.s)) ∧ (Bool.true = Bool.true)) ∧ True)))))))) ∧ True))
theorem seekVC_ok (x : SK) : seekVC x = seekVC_wp x := by kernel_rfl
def rseekVC_wp (x : SK) : Prop := wpF Try.prog tblV tt (anSeek 78 x) 200 5 78 (seekC.args x) (hO seekC.k (seekC.os x)) (fun v h' => endsP seekC.k x v h' seekC.outs)
def rseekVC (x : SK) : Prop :=
  ((∃ (s : Nat), ((s ≤ 4) ∧ (True ∧ (((((4 : Int) - ((s : Nat) : Int)) = (4 : Int)) ∧ (((Prod.fst (@skS x.s x.key s)) = (0 : Int)) ∧ (((((Prod.snd (@skS x.s x.key s)) : Nat) : Int) = (0 : Int)) ∧ True))) ∧ ((((0 = 0) ∧ (x.s.n = x.s.n)) ∧ (((0 = 0) ∧ (x.s.m = x.s.m)) ∧ True)) ∧ ((((@rowQ x.s) = (@rowQ x.s)) ∧ (Bool.true = Bool.true)) ∧ ((((rowP x.s) = (rowP x.s)) ∧ (Bool.true = Bool.true)) ∧ True))))))) ∧ ((∀ (s : Nat), ((s ≤ 4) → (cP (decide (@GE.ge Int @Int.instLEInt ((4 : Int) - ((s : Nat) : Int)) (1 : Int))) ((I64 ((Prod.fst (@skS x.s x.key s)) + (1 : Int))) ∧ ((∃ (s_1 : Nat), ((s_1 ≤ (@skJ x.s x.key (Int.toNat (((Prod.snd (@skS x.s x.key s)) : Nat) : Int)))) ∧ (True ∧ (((((((Int.toNat (((Prod.snd (@skS x.s x.key s)) : Nat) : Int)) + s_1) : Nat) : Int) = (((Prod.snd (@skS x.s x.key s)) : Nat) : Int)) ∧ (((@skN (fun (i : Nat) => (@levelM (@Shf.pk x.s i))) ((4 : Int) - ((s : Nat) : Int)) (Int.toNat (((Prod.snd (@skS x.s x.key s)) : Nat) : Int)) ((Prod.fst (@skS x.s x.key s)) + (1 : Int)) s_1) = ((Prod.fst (@skS x.s x.key s)) + (1 : Int))) ∧ (((((@skA (fun (i : Nat) => (@levelM (@Shf.pk x.s i))) ((4 : Int) - ((s : Nat) : Int)) (Int.toNat (((Prod.snd (@skS x.s x.key s)) : Nat) : Int)) s_1) : Nat) : Int) = (((Prod.snd (@skS x.s x.key s)) : Nat) : Int)) ∧ True))) ∧ ((((0 = 0) ∧ (x.s.n = x.s.n)) ∧ (((0 = 0) ∧ (x.s.m = x.s.m)) ∧ True)) ∧ ((((@rowQ x.s) = (@rowQ x.s)) ∧ (Bool.true = Bool.true)) ∧ ((((rowP x.s) = (rowP x.s)) ∧ (Bool.true = Bool.true)) ∧ True))))))) ∧ ((∀ (s_1 : Nat), ((s_1 ≤ (@skJ x.s x.key (Int.toNat (((Prod.snd (@skS x.s x.key s)) : Nat) : Int)))) → (cP (decide (((((Prod.snd (@skS x.s x.key s)) + s_1) : Nat) : Int) < ((x.s.n : Nat) : Int))) ((((0 : Int) ≤ ((((Prod.snd (@skS x.s x.key s)) + s_1) : Nat) : Int)) ∧
 (((((Prod.snd (@skS x.s x.key s)) + s_1) : Nat) : Int) < ((x.s.n : Nat) : Int))) ∧ (((0 + ((Prod.snd (@skS x.s x.key s)) + s_1)) < x.s.n) ∧ (cP (@Op.bytesLess (@ByteArray.toList (@Shf.pk x.s (0 + ((Prod.snd (@skS x.s x.key s)) + s_1)))) (@ByteArray.toList x.key)) ((((0 : Int) ≤ ((((Prod.snd (@skS x.s x.key s)) + s_1) : Nat) : Int)) ∧ (((((Prod.snd (@skS x.s x.key s)) + s_1) : Nat) : Int) < ((x.s.n : Nat) : Int))) ∧ (((0 + ((Prod.snd (@skS x.s x.key s)) + s_1)) < x.s.n) ∧ (∃ (x_1 : @ByteArray), (((@ByteArray.size x_1) < 1099511627776) ∧ (((x_1 = (@Shf.pk x.s (0 + ((Prod.snd (@skS x.s x.key s)) + s_1)))) ∧ True) ∧ (True ∧ (∀ (y : Unit), (True → (cP (decide (@GE.ge Int @Int.instLEInt (@levelM x_1) ((4 : Int) - ((s : Nat) : Int)))) ((I64 ((@skN (fun (i : Nat) => (@levelM (@Shf.pk x.s i))) ((4 : Int) - ((s : Nat) : Int)) (Prod.snd (@skS x.s x.key s)) ((Prod.fst (@skS x.s x.key s)) + (1 : Int)) s_1) + (1 : Int))) ∧ ((I64 (((((Prod.snd (@skS x.s x.key s)) + s_1) : Nat) : Int) + (1 : Int))) ∧ ((I64 (((((Prod.snd (@skS x.s x.key s)) + s_1) : Nat) : Int) + (1 : Int))) ∧ (∃ (s_2 : Nat), ((s_2 ≤ (@skJ x.s x.key (Int.toNat (((Prod.snd (@skS x.s x.key s)) : Nat) : Int)))) ∧ (((x.s.n - s_2) < (x.s.n - s_1)) ∧ (((((((Int.toNat (((Prod.snd (@skS x.s x.key s)) : Nat) : Int)) + s_2) : Nat) : Int) = (((((Prod.snd (@skS x.s x.key s)) + s_1) : Nat) : Int) + (1 : Int))) ∧ (((@skN (fun (i : Nat) => (@levelM (@Shf.pk x.s i))) ((4 : Int) - ((s : Nat) : Int)) (Int.toNat (((Prod.snd (@skS x.s x.key s)) : Nat) : Int)) ((Prod.fst (@skS x.s x.key s)) + (1 : Int)) s_2) = ((@skN (fun (i : Nat) => (@levelM (@Shf.pk x.s i))) ((4 : Int) - ((s : Nat) : Int)) (Prod.snd (@skS x.s x.key s)) ((Prod.fst (@skS x.s x.key s)) + (1 : Int)) s_1) + (1 : Int))) ∧
 (((((@skA (fun (i : Nat) => (@levelM (@Shf.pk x.s i))) ((4 : Int) - ((s : Nat) : Int)) (Int.toNat (((Prod.snd (@skS x.s x.key s)) : Nat) : Int)) s_2) : Nat) : Int) = (((((Prod.snd (@skS x.s x.key s)) + s_1) : Nat) : Int) + (1 : Int))) ∧ True))) ∧ ((((0 = 0) ∧ (x.s.n = x.s.n)) ∧ (((0 = 0) ∧ (x.s.m = x.s.m)) ∧ True)) ∧ ((((@rowQ x.s) = (@rowQ x.s)) ∧ (Bool.true = Bool.true)) ∧ ((((rowP x.s) = (rowP x.s)) ∧ (Bool.true = Bool.true)) ∧ True)))))))))) ((I64 (((((Prod.snd (@skS x.s x.key s)) + s_1) : Nat) : Int) + (1 : Int))) ∧ (∃ (s_2 : Nat), ((s_2 ≤ (@skJ x.s x.key (Int.toNat (((Prod.snd (@skS x.s x.key s)) : Nat) : Int)))) ∧ (((x.s.n - s_2) < (x.s.n - s_1)) ∧ (((((((Int.toNat (((Prod.snd (@skS x.s x.key s)) : Nat) : Int)) + s_2) : Nat) : Int) = (((((Prod.snd (@skS x.s x.key s)) + s_1) : Nat) : Int) + (1 : Int))) ∧ (((@skN (fun (i : Nat) => (@levelM (@Shf.pk x.s i))) ((4 : Int) - ((s : Nat) : Int)) (Int.toNat (((Prod.snd (@skS x.s x.key s)) : Nat) : Int)) ((Prod.fst (@skS x.s x.key s)) + (1 : Int)) s_2) = (@skN (fun (i : Nat) => (@levelM (@Shf.pk x.s i))) ((4 : Int) - ((s : Nat) : Int)) (Prod.snd (@skS x.s x.key s)) ((Prod.fst (@skS x.s x.key s)) + (1 : Int)) s_1)) ∧ (((((@skA (fun (i : Nat) => (@levelM (@Shf.pk x.s i))) ((4 : Int) - ((s : Nat) : Int)) (Int.toNat (((Prod.snd (@skS x.s x.key s)) : Nat) : Int)) s_2) : Nat) : Int) = (((@skA (fun (i : Nat) => (@levelM (@Shf.pk x.s i))) ((4 : Int) - ((s : Nat) : Int)) (Prod.snd (@skS x.s x.key s)) s_1) : Nat) : Int)) ∧ True))) ∧ ((((0 = 0) ∧
 (x.s.n = x.s.n)) ∧ (((0 = 0) ∧ (x.s.m = x.s.m)) ∧ True)) ∧ ((((@rowQ x.s) = (@rowQ x.s)) ∧ (Bool.true = Bool.true)) ∧ ((((rowP x.s) = (rowP x.s)) ∧ (Bool.true = Bool.true)) ∧ True))))))))))))))))) ((I64 (((4 : Int) - ((s : Nat) : Int)) - (1 : Int))) ∧ (∃ (s_2 : Nat), ((s_2 ≤ 4) ∧ (((4 - s_2) < (4 - s)) ∧ (((((4 : Int) - ((s_2 : Nat) : Int)) = (((4 : Int) - ((s : Nat) : Int)) - (1 : Int))) ∧ (((Prod.fst (@skS x.s x.key s_2)) = (@skN (fun (i : Nat) => (@levelM (@Shf.pk x.s i))) ((4 : Int) - ((s : Nat) : Int)) (Prod.snd (@skS x.s x.key s)) ((Prod.fst (@skS x.s x.key s)) + (1 : Int)) s_1)) ∧ (((((Prod.snd (@skS x.s x.key s_2)) : Nat) : Int) = (((@skA (fun (i : Nat) => (@levelM (@Shf.pk x.s i))) ((4 : Int) - ((s : Nat) : Int)) (Prod.snd (@skS x.s x.key s)) s_1) : Nat) : Int)) ∧ True))) ∧ ((((0 = 0) ∧ (x.s.n = x.s.n)) ∧ (((0 = 0) ∧ (x.s.m = x.s.m)) ∧ True)) ∧ ((((@rowQ x.s) = (@rowQ x.s)) ∧ (Bool.true = Bool.true)) ∧ ((((rowP x.s) = (rowP x.s)) ∧ (Bool.true = Bool.true)) ∧ True))))))))))) ((I64 (((4 : Int) - ((s : Nat) : Int)) - (1 : Int))) ∧ (∃ (s_2 : Nat), ((s_2 ≤ 4) ∧ (((4 - s_2) < (4 - s)) ∧ (((((4 : Int) - ((s_2 : Nat) : Int)) = (((4 : Int) - ((s : Nat) : Int)) - (1 : Int))) ∧ (((Prod.fst (@skS x.s x.key s_2)) = (@skN (fun (i : Nat) => (@levelM (@Shf.pk x.s i))) ((4 : Int) - ((s : Nat) : Int)) (Prod.snd (@skS x.s x.key s)) ((Prod.fst (@skS x.s x.key s)) + (1 : Int)) s_1)) ∧ (((((Prod.snd (@skS x.s x.key s_2)) : Nat) : Int) = (((@skA (fun (i : Nat) => (@levelM (@Shf.pk x.s i))) ((4 : Int) - ((s : Nat) : Int)) (Prod.snd (@skS x.s x.key s)) s_1) : Nat) : Int)) ∧
 True))) ∧ ((((0 = 0) ∧ (x.s.n = x.s.n)) ∧ (((0 = 0) ∧ (x.s.m = x.s.m)) ∧ True)) ∧ ((((@rowQ x.s) = (@rowQ x.s)) ∧ (Bool.true = Bool.true)) ∧ ((((rowP x.s) = (rowP x.s)) ∧ (Bool.true = Bool.true)) ∧ True))))))))))) ∧ True))) (∃ (y : Unit), (True ∧ (((@seekM x.s x.key) = (Prod.fst (@skS x.s x.key s))) ∧ ((((rowP x.s) = (rowP x.s)) ∧ (Bool.true = Bool.true)) ∧ ((((@rowQ x.s) = (@rowQ x.s)) ∧ (Bool.true = Bool.true)) ∧ True)))))))) ∧ True))
theorem rseekVC_ok (x : SK) : rseekVC x = rseekVC_wp x := by kernel_rfl
def mayVC_wp (x : Shf) : Prop := wpF Try.prog [] tt (anMay x) 200 5 16 (mayC.args x) (hO mayC.k (mayC.os x)) (fun v h' => endsP mayC.k x v h' mayC.outs)
def mayVC (x : Shf) : Prop :=
  ((∃ (s : Nat), (((s ≤ x.n) ∧ (∀ (j : Nat), ((j < s) → ((1 ≤ j) → ((@lsB (@Shf.pk x (j - 1)) (@Shf.pk x j)) = Bool.true))))) ∧ (True ∧ (((((s : Nat) : Int) = (0 : Int)) ∧ True) ∧ ((((0 = 0) ∧ (x.n = x.n)) ∧ (((0 = 0) ∧ (x.m = x.m)) ∧ True)) ∧ ((((@rowQ x) = (@rowQ x)) ∧ (Bool.true = Bool.true)) ∧ ((((rowP x) = (rowP x)) ∧ (Bool.true = Bool.true)) ∧ True))))))) ∧ ((∀ (s : Nat), (((s ≤ x.n) ∧ (∀ (j : Nat), ((j < s) → ((1 ≤ j) → ((@lsB (@Shf.pk x (j - 1)) (@Shf.pk x j)) = Bool.true))))) → (cP (decide (((s : Nat) : Int) < ((x.n : Nat) : Int))) ((((0 : Int) ≤ ((s : Nat) : Int)) ∧ (((s : Nat) : Int) < ((x.n : Nat) : Int))) ∧ (((0 + s) < x.n) ∧ (cP (decide (@GT.gt Int @Int.instLTInt ((s : Nat) : Int) (0 : Int))) ((I64 (((s : Nat) : Int) - (1 : Int))) ∧ ((((0 : Int) ≤ (((s : Nat) : Int) - (1 : Int))) ∧ ((((s : Nat) : Int) - (1 : Int)) < ((x.n : Nat) : Int))) ∧ (((0 + (Int.toNat (((s : Nat) : Int) - (1 : Int)))) < x.n) ∧ (cP (@Bool.not (@Op.bytesLess (@ByteArray.toList (@Shf.pk x (0 + (Int.toNat (((s : Nat) : Int) - (1 : Int)))))) (@ByteArray.toList (@Shf.pk x (0 + s))))) (∃ (y : Unit), (True ∧ (((@mayM x) = Bool.false) ∧ ((((rowP x) = (rowP x)) ∧ (Bool.true = Bool.true)) ∧ ((((@rowQ x) = (@rowQ x)) ∧ (Bool.true = Bool.true)) ∧ True))))) ((I64 (((s : Nat) : Int) + (1 : Int))) ∧ (∃ (s_1 : Nat), (((s_1 ≤ x.n) ∧ (∀ (j : Nat), ((j < s_1) → ((1 ≤ j) → ((@lsB (@Shf.pk x (j - 1)) (@Shf.pk x j)) = Bool.true))))) ∧ (((x.n - s_1) < (x.n - s)) ∧ (((((s_1 : Nat) : Int) = (((s : Nat) : Int) + (1 : Int))) ∧
 True) ∧ ((((0 = 0) ∧ (x.n = x.n)) ∧ (((0 = 0) ∧ (x.m = x.m)) ∧ True)) ∧ ((((@rowQ x) = (@rowQ x)) ∧ (Bool.true = Bool.true)) ∧ ((((rowP x) = (rowP x)) ∧ (Bool.true = Bool.true)) ∧ True)))))))))))) ((I64 (((s : Nat) : Int) + (1 : Int))) ∧ (∃ (s_1 : Nat), (((s_1 ≤ x.n) ∧ (∀ (j : Nat), ((j < s_1) → ((1 ≤ j) → ((@lsB (@Shf.pk x (j - 1)) (@Shf.pk x j)) = Bool.true))))) ∧ (((x.n - s_1) < (x.n - s)) ∧ (((((s_1 : Nat) : Int) = (((s : Nat) : Int) + (1 : Int))) ∧ True) ∧ ((((0 = 0) ∧ (x.n = x.n)) ∧ (((0 = 0) ∧ (x.m = x.m)) ∧ True)) ∧ ((((@rowQ x) = (@rowQ x)) ∧ (Bool.true = Bool.true)) ∧ ((((rowP x) = (rowP x)) ∧ (Bool.true = Bool.true)) ∧ True))))))))))) (∃ (y : Unit), (True ∧ (((@mayM x) = Bool.true) ∧ ((((rowP x) = (rowP x)) ∧ (Bool.true = Bool.true)) ∧ ((((@rowQ x) = (@rowQ x)) ∧ (Bool.true = Bool.true)) ∧ True)))))))) ∧ True))
theorem mayVC_ok (x : Shf) : mayVC x = mayVC_wp x := by kernel_rfl
def rmayVC_wp (x : Shf) : Prop := wpF Try.prog [] tt (anRMay x) 200 5 43 (mayC.args x) (hO mayC.k (mayC.os x)) (fun v h' => endsP mayC.k x v h' mayC.outs)
def rmayVC (x : Shf) : Prop :=
  ((∃ (s : Nat), (((1 ≤ s) ∧ (((x.n = 0) ∨ (s ≤ x.n)) ∧ (∀ (j : Nat), ((j < s) → ((1 ≤ j) → ((@lsB (@Shf.pk x (j - 1)) (@Shf.pk x j)) = Bool.true)))))) ∧ (True ∧ (((((s : Nat) : Int) = (1 : Int)) ∧ True) ∧ ((((0 = 0) ∧ (x.n = x.n)) ∧ (((0 = 0) ∧ (x.m = x.m)) ∧ True)) ∧ ((((@rowQ x) = (@rowQ x)) ∧ (Bool.true = Bool.true)) ∧ ((((rowP x) = (rowP x)) ∧ (Bool.true = Bool.true)) ∧ True))))))) ∧ ((∀ (s : Nat), (((1 ≤ s) ∧ (((x.n = 0) ∨ (s ≤ x.n)) ∧ (∀ (j : Nat), ((j < s) → ((1 ≤ j) → ((@lsB (@Shf.pk x (j - 1)) (@Shf.pk x j)) = Bool.true)))))) → (cP (decide (((s : Nat) : Int) < ((x.n : Nat) : Int))) ((I64 (((s : Nat) : Int) - (1 : Int))) ∧ ((((0 : Int) ≤ (((s : Nat) : Int) - (1 : Int))) ∧ ((((s : Nat) : Int) - (1 : Int)) < ((x.n : Nat) : Int))) ∧ (((0 + (Int.toNat (((s : Nat) : Int) - (1 : Int)))) < x.n) ∧ ((((0 : Int) ≤ ((s : Nat) : Int)) ∧ (((s : Nat) : Int) < ((x.n : Nat) : Int))) ∧ (((0 + s) < x.n) ∧ (cP (@Bool.not (@Op.bytesLess (@ByteArray.toList (@Shf.pk x (0 + (Int.toNat (((s : Nat) : Int) - (1 : Int)))))) (@ByteArray.toList (@Shf.pk x (0 + s))))) (∃ (y : Unit), (True ∧ (((@mayM x) = Bool.false) ∧ ((((rowP x) = (rowP x)) ∧ (Bool.true = Bool.true)) ∧ ((((@rowQ x) = (@rowQ x)) ∧ (Bool.true = Bool.true)) ∧ True))))) ((I64 (((s : Nat) : Int) + (1 : Int))) ∧ (∃ (s_1 : Nat), (((1 ≤ s_1) ∧ (((x.n = 0) ∨ (s_1 ≤ x.n)) ∧ (∀ (j : Nat), ((j < s_1) → ((1 ≤ j) → ((@lsB (@Shf.pk x (j - 1)) (@Shf.pk x j)) = Bool.true)))))) ∧ (((x.n - s_1) < (x.n - s)) ∧ (((((s_1 : Nat) : Int) = (((s : Nat) : Int) + (1 : Int))) ∧
 True) ∧ ((((0 = 0) ∧ (x.n = x.n)) ∧ (((0 = 0) ∧ (x.m = x.m)) ∧ True)) ∧ ((((@rowQ x) = (@rowQ x)) ∧ (Bool.true = Bool.true)) ∧ ((((rowP x) = (rowP x)) ∧ (Bool.true = Bool.true)) ∧ True)))))))))))))) (∃ (y : Unit), (True ∧ (((@mayM x) = Bool.true) ∧ ((((rowP x) = (rowP x)) ∧ (Bool.true = Bool.true)) ∧ ((((@rowQ x) = (@rowQ x)) ∧ (Bool.true = Bool.true)) ∧ True)))))))) ∧ True))
theorem rmayVC_ok (x : Shf) : rmayVC x = rmayVC_wp x := by kernel_rfl
def placeVC_wp (x : SK) : Prop := wpF Try.prog [] tt (anPlace x) 200 5 68 (placeC.args x) (hO placeC.k (placeC.os x)) (fun v h' => endsP placeC.k x v h' placeC.outs)
def placeVC (x : SK) : Prop :=
  ((∃ (s : Nat), (((s ≤ x.s.n) ∧ (∀ (j : Nat), ((j < s) → ((eqB (@Shf.pk x.s j) x.key) = Bool.false)))) ∧ (True ∧ (((((s : Nat) : Int) = (0 : Int)) ∧ True) ∧ (((x.key = x.key) ∧ True) ∧ ((((0 = 0) ∧ (x.s.n = x.s.n)) ∧ (((0 = 0) ∧ (x.s.m = x.s.m)) ∧ True)) ∧ ((((@rowQ x.s) = (@rowQ x.s)) ∧ (Bool.true = Bool.true)) ∧ ((((rowP x.s) = (rowP x.s)) ∧ (Bool.true = Bool.true)) ∧ True)))))))) ∧ ((∀ (s : Nat), (((s ≤ x.s.n) ∧ (∀ (j : Nat), ((j < s) → ((eqB (@Shf.pk x.s j) x.key) = Bool.false)))) → (cP (decide (((s : Nat) : Int) < ((x.s.n : Nat) : Int))) ((((0 : Int) ≤ ((s : Nat) : Int)) ∧ (((s : Nat) : Int) < ((x.s.n : Nat) : Int))) ∧ (((0 + s) < x.s.n) ∧ (cP (@BEq.beq (@List UInt8) (@List.instBEq UInt8 (@instBEqOfDecidableEq UInt8 @instDecidableEqUInt8)) (@ByteArray.toList (@Shf.pk x.s (0 + s))) (@ByteArray.toList x.key)) (∃ (y : Unit), (True ∧ (((@placeI x.s x.key) = ((s : Nat) : Int)) ∧ ((((rowP x.s) = (rowP x.s)) ∧ (Bool.true = Bool.true)) ∧ ((((@rowQ x.s) = (@rowQ x.s)) ∧ (Bool.true = Bool.true)) ∧ True))))) ((I64 (((s : Nat) : Int) + (1 : Int))) ∧ (∃ (s_1 : Nat), (((s_1 ≤ x.s.n) ∧ (∀ (j : Nat), ((j < s_1) → ((eqB (@Shf.pk x.s j) x.key) = Bool.false)))) ∧ (((x.s.n - s_1) < (x.s.n - s)) ∧ (((((s_1 : Nat) : Int) = (((s : Nat) : Int) + (1 : Int))) ∧ True) ∧ (((x.key = x.key) ∧ True) ∧ ((((0 = 0) ∧ (x.s.n = x.s.n)) ∧ (((0 = 0) ∧ (x.s.m = x.s.m)) ∧ True)) ∧ ((((@rowQ x.s) = (@rowQ x.s)) ∧ (Bool.true = Bool.true)) ∧ ((((rowP x.s) = (rowP x.s)) ∧ (Bool.true = Bool.true)) ∧ True)))))))))))) (∃ (y : Unit), (True ∧
 (((@placeI x.s x.key) = (-(1 : Int))) ∧ ((((rowP x.s) = (rowP x.s)) ∧ (Bool.true = Bool.true)) ∧ ((((@rowQ x.s) = (@rowQ x.s)) ∧ (Bool.true = Bool.true)) ∧ True)))))))) ∧ True))
theorem placeVC_ok (x : SK) : placeVC x = placeVC_wp x := by kernel_rfl
def getVC_wp (x : SK) : Prop := wpF Try.prog [(68, ctrT placeC)] tt noAn 200 5 36 (getC.args x) (hO getC.k (getC.os x)) (fun v h' => endsP getC.k x v h' getC.outs)
def getVC (x : SK) : Prop :=
  (∃ (x_1 : @SK), ((Hd x_1.ok) ∧ (((((0 = 0) ∧ (x_1.s.n = x.s.n)) ∧ (((0 = 0) ∧ (x_1.s.m = x.s.m)) ∧ True)) ∧ ((x_1.key = x.key) ∧ True)) ∧ ((((x_1.s.n = x.s.n) ∧ (∀ (q : Nat), ((q < x_1.s.n) → ([(Value.string (@Shf.pk x_1.s q)), (Value.string (@Shf.pv x_1.s q))] = [(Value.string (@Shf.pk x.s q)), (Value.string (@Shf.pv x.s q))])))) ∧ (((x_1.s.m = x.s.m) ∧ (∀ (q : Nat), ((q < x_1.s.m) → ([(Value.string (@Shf.qv x_1.s q))] = [(Value.string (@Shf.qv x.s q))])))) ∧ True)) ∧ (∀ (y : Unit), (True → (cP (decide ((@placeI x_1.s x_1.key) < (0 : Int))) (∃ (y_1 : Unit), (True ∧ ((((@getM x.s x.key) = (@ByteArray.mk (@List.toArray UInt8 (@List.nil UInt8)))) ∧ (((@hadM x.s x.key) = Bool.false) ∧ True)) ∧ ((((rowP x.s) = (rowP x.s)) ∧ (Bool.true = Bool.true)) ∧ ((((@rowQ x.s) = (@rowQ x.s)) ∧ (Bool.true = Bool.true)) ∧ True))))) ((((0 : Int) ≤ (@placeI x_1.s x_1.key)) ∧ ((@placeI x_1.s x_1.key) < ((x.s.n : Nat) : Int))) ∧ (((0 + (Int.toNat (@placeI x_1.s x_1.key))) < x.s.n) ∧ (∃ (y_1 : Unit), (True ∧ ((((@getM x.s x.key) = (@Shf.pv x.s (0 + (Int.toNat (@placeI x_1.s x_1.key))))) ∧ (((@hadM x.s x.key) = Bool.true) ∧ True)) ∧ ((((rowP x.s) = (rowP x.s)) ∧ (Bool.true = Bool.true)) ∧ ((((@rowQ x.s) = (@rowQ x.s)) ∧ (Bool.true = Bool.true)) ∧ True))))))))))))))
theorem getVC_ok (x : SK) : getVC x = getVC_wp x := by kernel_rfl
def rgetVC_wp (x : SK) : Prop := wpF Try.prog [] tt (anRGet x) 200 5 45 (getC.args x) (hO getC.k (getC.os x)) (fun v h' => endsP getC.k x v h' getC.outs)
def rgetVC (x : SK) : Prop :=
  ((∃ (s : Nat), (((s ≤ x.s.n) ∧ (∀ (j : Nat), ((j < s) → ((eqB (@Shf.pk x.s j) x.key) = Bool.false)))) ∧ (True ∧ (((((s : Nat) : Int) = (0 : Int)) ∧ True) ∧ ((((0 = 0) ∧ (x.s.n = x.s.n)) ∧ (((0 = 0) ∧ (x.s.m = x.s.m)) ∧ True)) ∧ ((((@rowQ x.s) = (@rowQ x.s)) ∧ (Bool.true = Bool.true)) ∧ ((((rowP x.s) = (rowP x.s)) ∧ (Bool.true = Bool.true)) ∧ True))))))) ∧ ((∀ (s : Nat), (((s ≤ x.s.n) ∧ (∀ (j : Nat), ((j < s) → ((eqB (@Shf.pk x.s j) x.key) = Bool.false)))) → (cP (decide (((s : Nat) : Int) < ((x.s.n : Nat) : Int))) ((((0 : Int) ≤ ((s : Nat) : Int)) ∧ (((s : Nat) : Int) < ((x.s.n : Nat) : Int))) ∧ (((0 + s) < x.s.n) ∧ (cP (@BEq.beq (@List UInt8) (@List.instBEq UInt8 (@instBEqOfDecidableEq UInt8 @instDecidableEqUInt8)) (@ByteArray.toList (@Shf.pk x.s (0 + s))) (@ByteArray.toList x.key)) ((((0 : Int) ≤ ((s : Nat) : Int)) ∧ (((s : Nat) : Int) < ((x.s.n : Nat) : Int))) ∧ (((0 + s) < x.s.n) ∧ (∃ (y : Unit), (True ∧ ((((@getM x.s x.key) = (@Shf.pv x.s (0 + s))) ∧ (((@hadM x.s x.key) = Bool.true) ∧ True)) ∧ ((((rowP x.s) = (rowP x.s)) ∧ (Bool.true = Bool.true)) ∧ ((((@rowQ x.s) = (@rowQ x.s)) ∧ (Bool.true = Bool.true)) ∧ True))))))) ((I64 (((s : Nat) : Int) + (1 : Int))) ∧ (∃ (s_1 : Nat), (((s_1 ≤ x.s.n) ∧ (∀ (j : Nat), ((j < s_1) → ((eqB (@Shf.pk x.s j) x.key) = Bool.false)))) ∧ (((x.s.n - s_1) < (x.s.n - s)) ∧ (((((s_1 : Nat) : Int) = (((s : Nat) : Int) + (1 : Int))) ∧ True) ∧ ((((0 = 0) ∧ (x.s.n = x.s.n)) ∧ (((0 = 0) ∧ (x.s.m = x.s.m)) ∧ True)) ∧ ((((@rowQ x.s) = (@rowQ x.s)) ∧ (Bool.true = Bool.true)) ∧
 ((((rowP x.s) = (rowP x.s)) ∧ (Bool.true = Bool.true)) ∧ True))))))))))) (∃ (y : Unit), (True ∧ ((((@getM x.s x.key) = (@ByteArray.mk (@List.toArray UInt8 (@List.nil UInt8)))) ∧ (((@hadM x.s x.key) = Bool.false) ∧ True)) ∧ ((((rowP x.s) = (rowP x.s)) ∧ (Bool.true = Bool.true)) ∧ ((((@rowQ x.s) = (@rowQ x.s)) ∧ (Bool.true = Bool.true)) ∧ True)))))))) ∧ True))
theorem rgetVC_ok (x : SK) : rgetVC x = rgetVC_wp x := by kernel_rfl
end Go.Proofs.Ytjndgegfonhhfaa
end
section
/- Stores that are read: what is asked is so. -/
namespace Go.Proofs.Ytjndgegfonhhfaa
open Go SE
theorem eL (a b : BA) : (a.toList == b.toList) = eqB a b := rfl
theorem lL (a b : BA) : Op.bytesLess a.toList b.toList = lsB a b := rfl
theorem cntM_le (p : Nat → Bool) : ∀ n, cntM p n ≤ n
  | 0 => Nat.le_refl _
  | n + 1 => by have := cntM_le p n; simp only [cntM]; cases p n <;> simp <;> omega
theorem SK.ok.n {x : SK} (h : x.ok) : x.s.n ≤ 40 := h.1.1
theorem findVC_true (x : SK) (hx : x.ok) : findVC x := by
  unfold findVC
  have hn := hx.n
  have hk : ∀ k, k < x.s.n → (x.s.pk k).size < 1099511627776 := fun k h => by have := (hx.1.2.2.1 k h).1; omega
  have hkey : x.key.size < 1099511627776 := by have := hx.2; omega
  simp only [hd_iff, and_true, true_and, Nat.zero_add, Nat.add_zero, unit_ex, unit_all, true_implies, implies_true, Int.toNat_natCast, eq_self, and_self, eL, lL]
  refine ⟨⟨0, by omega, rfl, rfl⟩, fun i hi => cP_intro (fun hb => ?_) (fun hb => ?_)⟩
  · have hb := of_decide_eq_true hb
    have hl : i < x.s.n := by omega
    have hc := cntM_le (nearM x.s x.key) i
    refine ⟨⟨by omega, hb⟩, hl, cP_intro (fun h1 => ⟨_, hk i hl, rfl, _, hkey, rfl, cP_intro (fun h2 => ?_) (fun h2 => ?_)⟩) (fun h1 => ?_)⟩
    · have h2 := of_decide_eq_true h2
      exact ⟨by unfold I64; omega, by unfold I64; omega, i + 1, by omega, by omega, rfl, by simp [cntM, nearM, h1, h2]; omega⟩
    · have h2 := of_decide_eq_false h2
      exact ⟨by unfold I64; omega, i + 1, by omega, by omega, rfl, by simp [cntM, nearM, h1, h2]⟩
    · exact ⟨by unfold I64; omega, i + 1, by omega, by omega, rfl, by simp [cntM, nearM, h1]⟩
  · have : i = x.s.n := by have := of_decide_eq_false hb; omega
    subst this; rfl
theorem rfindVC_true (x : SK) (hx : x.ok) : rfindVC x := by
  unfold rfindVC
  have hn := hx.n
  have hk : ∀ k, k < x.s.n → (x.s.pk k).size < 1099511627776 := fun k h => by have := (hx.1.2.2.1 k h).1; omega
  have hkey : x.key.size < 1099511627776 := by have := hx.2; omega
  simp only [hd_iff, and_true, true_and, Nat.zero_add, Nat.add_zero, unit_ex, unit_all, true_implies, implies_true, Int.toNat_natCast, eq_self, and_self, eL, lL]
  refine ⟨⟨0, by omega, rfl, rfl⟩, fun i hi => cP_intro (fun hb => ?_) (fun hb => ?_)⟩
  · have hb := of_decide_eq_true hb
    have hl : i < x.s.n := by omega
    have hc := cntM_le (nearM x.s x.key) i
    refine ⟨⟨by omega, hb⟩, hl, cP_intro (fun h1 => ⟨_, hk i hl, rfl, _, hkey, rfl, cP_intro (fun h2 => ?_) (fun h2 => ?_)⟩) (fun h1 => ?_)⟩
    · have h2 := of_decide_eq_true h2
      exact ⟨by unfold I64; omega, by unfold I64; omega, i + 1, by omega, by omega, rfl, by simp [cntM, nearM, h1, h2]; omega⟩
    · have h2 := of_decide_eq_false h2
      exact ⟨by unfold I64; omega, i + 1, by omega, by omega, rfl, by simp [cntM, nearM, h1, h2]⟩
    · exact ⟨by unfold I64; omega, i + 1, by omega, by omega, rfl, by simp [cntM, nearM, h1]⟩
  · have : i = x.s.n := by have := of_decide_eq_false hb; omega
    subst this; rfl
/-! ### Ahead of a key -/
theorem runM_spec (p : Nat → Bool) : ∀ f i, runM p f i ≤ f ∧ (∀ j, j < runM p f i → p (i + j) = true) ∧ (runM p f i < f → p (i + runM p f i) = false)
  | 0, i => by simp [runM]
  | f + 1, i => by
    obtain ⟨h1, h2, h3⟩ := runM_spec p f (i + 1)
    cases hp : p i with
    | false => simp [runM, hp]
    | true =>
      simp only [runM, hp, cond_true]
      refine ⟨by omega, fun j hj => ?_, fun hlt => ?_⟩
      · cases j with
        | zero => exact hp
        | succ j => have := h2 j (by omega); rwa [show i + 1 + j = i + (j + 1) by omega] at this
      · have := h3 (by omega); rwa [show i + 1 + runM p f (i + 1) = i + (runM p f (i + 1) + 1) by omega] at this
theorem skN_le (lv : Nat → Int) (l : Int) (a : Nat) (n : Int) : ∀ j : Nat, n ≤ skN lv l a n j ∧ skN lv l a n j ≤ n + j
  | 0 => by simp [skN]
  | j + 1 => by have := skN_le lv l a n j; simp only [skN]; cases decide (l ≤ lv (a + j)) <;> simp <;> omega
theorem skA_le (lv : Nat → Int) (l : Int) (a : Nat) : ∀ j : Nat, skA lv l a j ≤ a + j
  | 0 => by simp [skA]
  | j + 1 => by have := skA_le lv l a j; simp only [skA]; cases decide (l ≤ lv (a + j)) <;> simp <;> omega
theorem skJ_spec (s : Shf) (key : BA) (a : Nat) : skJ s key a ≤ s.n - a ∧ (∀ j, j < skJ s key a → lsB (s.pk (a + j)) key = true) ∧ (skJ s key a < s.n - a → lsB (s.pk (a + skJ s key a)) key = false) := runM_spec _ _ _
theorem skS_le (s : Shf) (key : BA) : ∀ k : Nat, (skS s key k).2 ≤ s.n ∧ 0 ≤ (skS s key k).1 ∧ (skS s key k).1 ≤ k * (s.n + 1)
  | 0 => by simp [skS]
  | k + 1 => by
    obtain ⟨h1, h2, h3⟩ := skS_le s key k
    have g1 := skA_le (fun i => levelM (s.pk i)) (4 - k) (skS s key k).2 (skJ s key (skS s key k).2)
    have g2 := skN_le (fun i => levelM (s.pk i)) (4 - k) (skS s key k).2 ((skS s key k).1 + 1) (skJ s key (skS s key k).2)
    have g3 := (skJ_spec s key (skS s key k).2).1
    simp only [skS, skAx, skNx]
    have e : ((k + 1 : Nat) : Int) * ((s.n : Int) + 1) = (k : Int) * ((s.n : Int) + 1) + s.n + 1 := by rw [Int.natCast_add, Int.add_mul]; omega
    rw [e]
    omega
theorem seekVC_true (x : SK) (hx : x.ok) : seekVC x := by
  unfold seekVC
  have hn := hx.n
  have hk : ∀ k, k < x.s.n → (x.s.pk k).size < 1099511627776 := fun k h => by have := (hx.1.2.2.1 k h).1; omega
  simp only [hd_iff, and_true, true_and, Nat.zero_add, Nat.add_zero, unit_ex, unit_all, true_implies, implies_true, Int.toNat_natCast, eq_self, and_self, eL, lL]
  refine ⟨⟨0, by omega, by omega, rfl, rfl⟩, fun k hk4 => cP_intro (fun hb => ?_) (fun hb => ?_)⟩
  · have hb := of_decide_eq_true hb
    obtain ⟨l1, l2, l3⟩ := skS_le x.s x.key k
    have l4 : (k : Int) * ((x.s.n : Int) + 1) ≤ 4 * 41 := by
      have h : k * (x.s.n + 1) ≤ 4 * 41 := Nat.mul_le_mul hk4 (by omega)
      have : ((k * (x.s.n + 1) : Nat) : Int) ≤ ((4 * 41 : Nat) : Int) := Int.ofNat_le.2 h
      simpa using this
    have e4 : skS x.s x.key (k + 1) = (skNx x.s x.key (4 - k) (skS x.s x.key k).2 (skS x.s x.key k).1, skAx x.s x.key (4 - k) (skS x.s x.key k).2) := rfl
    revert e4 l1 l2 l3
    generalize skS x.s x.key k = z
    obtain ⟨n0, a0⟩ := z
    intro l1 l2 l3 e4
    dsimp only at l1 l2 l3 e4 ⊢
    obtain ⟨j1, j2, j3⟩ := skJ_spec x.s x.key a0
    refine ⟨by unfold I64; omega, ⟨0, by omega, rfl, rfl, rfl⟩, fun j hj => ?_⟩
    have hN := skN_le (fun i => levelM (x.s.pk i)) (4 - k) a0 (n0 + 1) j
    have hA := skA_le (fun i => levelM (x.s.pk i)) (4 - k) a0 j
    have next : I64 (4 - (k : Int) - 1) ∧ (j = skJ x.s x.key a0 → ∃ y : Nat, y ≤ 4 ∧ 4 - y < 4 - k ∧ (4 - (y : Int) = 4 - (k : Int) - 1 ∧ (skS x.s x.key y).1 = skN (fun i => levelM (x.s.pk i)) (4 - k) a0 (n0 + 1) j ∧ ((skS x.s x.key y).2 : Int) = (skA (fun i => levelM (x.s.pk i)) (4 - k) a0 j : Nat))) := by
      refine ⟨by unfold I64; omega, fun hj => ⟨k + 1, by omega, by omega, by omega, ?_, ?_⟩⟩
      · rw [e4]; subst hj; rfl
      · rw [e4]; subst hj; rfl
    refine cP_intro (fun hb => ?_) (fun hb => ?_)
    · have hb := of_decide_eq_true hb
      refine ⟨⟨by omega, hb⟩, by omega, cP_intro (fun h1 => ?_) (fun h1 => ?_)⟩
      · have hjlt : j < skJ x.s x.key a0 := by
          rcases Nat.lt_or_ge j (skJ x.s x.key a0) with h | h
          · exact h
          · have : j = skJ x.s x.key a0 := by omega
            subst this
            rw [j3 (by omega)] at h1; cases h1
        refine ⟨⟨by omega, hb⟩, by omega, _, hk _ (by omega), rfl, cP_intro (fun h2 => ?_) (fun h2 => ?_)⟩
        · have h2 := of_decide_eq_true h2
          exact ⟨by unfold I64; omega, by unfold I64; omega, by unfold I64; omega, j + 1, by omega, by omega, by omega, by simp [skN, show (4 : Int) - k ≤ levelM (x.s.pk (a0 + j)) from h2], by simp [skA, show (4 : Int) - k ≤ levelM (x.s.pk (a0 + j)) from h2]⟩
        · have h2 := of_decide_eq_false h2
          exact ⟨by unfold I64; omega, j + 1, by omega, by omega, by omega, by simp [skN, show ¬ (4 : Int) - k ≤ levelM (x.s.pk (a0 + j)) from h2], by simp [skA, show ¬ (4 : Int) - k ≤ levelM (x.s.pk (a0 + j)) from h2]⟩
      · have hjeq : j = skJ x.s x.key a0 := by
          rcases Nat.lt_or_ge j (skJ x.s x.key a0) with h | h
          · rw [j2 j h] at h1; cases h1
          · omega
        exact ⟨next.1, next.2 hjeq⟩
    · have hb := of_decide_eq_false hb
      exact ⟨next.1, next.2 (by omega)⟩
  · have : k = 4 := by have := of_decide_eq_false hb; omega
    subst this; rfl
theorem rseekVC_true (x : SK) (hx : x.ok) : rseekVC x := by
  have h := seekVC_true x hx
  unfold seekVC at h
  unfold rseekVC
  exact h
/-! ### Rising keys -/
theorem mayM_true {s : Shf} (h : ∀ j, j < s.n → 1 ≤ j → lsB (s.pk (j - 1)) (s.pk j) = true) : mayM s = true := decide_eq_true h
theorem mayM_false {s : Shf} {j : Nat} (h1 : j < s.n) (h2 : 1 ≤ j) (h : lsB (s.pk (j - 1)) (s.pk j) = false) : mayM s = false := decide_eq_false fun hh => by rw [hh j h1 h2] at h; cases h
theorem mayVC_true (s : Shf) (hs : s.small) : mayVC s := by
  unfold mayVC
  have hn := hs.1
  simp only [hd_iff, and_true, true_and, Nat.zero_add, Nat.add_zero, unit_ex, unit_all, true_implies, implies_true, Int.toNat_natCast, eq_self, and_self, eL, lL]
  refine ⟨⟨0, ⟨by omega, fun j hj => by omega⟩, rfl⟩, fun i ⟨hi, hall⟩ => cP_intro (fun hb => ?_) (fun hb => ?_)⟩
  · have hb := of_decide_eq_true hb
    have hl : i < s.n := by omega
    refine ⟨⟨by omega, hb⟩, hl, cP_intro (fun h1 => ?_) (fun h1 => ?_)⟩
    · have h1 := of_decide_eq_true h1
      have e : ((i : Int) - 1).toNat = i - 1 := by omega
      rw [e]
      refine ⟨by unfold I64; omega, ⟨by omega, by omega⟩, by omega, cP_intro (fun h2 => ?_) (fun h2 => ?_)⟩
      · exact mayM_false hl (by omega) (by simpa using h2)
      · have h2 : lsB (s.pk (i - 1)) (s.pk i) = true := by simpa using h2
        refine ⟨by unfold I64; omega, i + 1, ⟨by omega, fun j hj hj1 => ?_⟩, by omega, rfl⟩
        rcases Nat.lt_or_ge j i with h | h
        · exact hall j h hj1
        · have : j = i := by omega
          subst this; exact h2
    · have h1 := of_decide_eq_false h1
      exact ⟨by unfold I64; omega, i + 1, ⟨by omega, fun j hj hj1 => by omega⟩, by omega, rfl⟩
  · have : i = s.n := by have := of_decide_eq_false hb; omega
    subst this; exact mayM_true hall
theorem rmayVC_true (s : Shf) (hs : s.small) : rmayVC s := by
  unfold rmayVC
  have hn := hs.1
  simp only [hd_iff, and_true, true_and, Nat.zero_add, Nat.add_zero, unit_ex, unit_all, true_implies, implies_true, Int.toNat_natCast, eq_self, and_self, eL, lL]
  refine ⟨⟨1, ⟨by omega, by omega, fun j hj => by omega⟩, rfl⟩, fun i ⟨hi1, hi, hall⟩ => cP_intro (fun hb => ?_) (fun hb => ?_)⟩
  · have hb := of_decide_eq_true hb
    have hl : i < s.n := by omega
    have e : ((i : Int) - 1).toNat = i - 1 := by omega
    rw [e]
    refine ⟨by unfold I64; omega, ⟨by omega, by omega⟩, by omega, ⟨by omega, by omega⟩, by omega, cP_intro (fun h2 => ?_) (fun h2 => ?_)⟩
    · exact mayM_false hl (by omega) (by simpa using h2)
    · have h2 : lsB (s.pk (i - 1)) (s.pk i) = true := by simpa using h2
      refine ⟨by unfold I64; omega, i + 1, ⟨by omega, by omega, fun j hj hj1 => ?_⟩, by omega, rfl⟩
      rcases Nat.lt_or_ge j i with h | h
      · exact hall j h hj1
      · have : j = i := by omega
        subst this; exact h2
  · have hb := of_decide_eq_false hb
    exact mayM_true fun j hj hj1 => hall j (by omega) hj1
/-! ### Where a key's pair is -/
theorem firstM_at {p : Nat → Bool} {n : Nat} : ∀ {f i j : Nat}, i + f = n → i ≤ j → j < n → (∀ k, i ≤ k → k < j → p k = false) → p j = true → firstM p n f i = j
  | 0, i, j, h1, h2, h3, _, _ => by omega
  | f + 1, i, j, h1, h2, h3, h4, h5 => by
    simp only [firstM]
    rcases Nat.lt_or_ge i j with h | h
    · rw [h4 i (Nat.le_refl _) h, cond_false]
      exact firstM_at (by omega) (by omega) h3 (fun k hk => h4 k (by omega)) h5
    · have : i = j := by omega
      subst this; rw [h5, cond_true]
theorem firstM_none {p : Nat → Bool} {n : Nat} : ∀ {f i : Nat}, i + f = n → (∀ k, i ≤ k → k < n → p k = false) → firstM p n f i = n
  | 0, _, _, _ => rfl
  | f + 1, i, h1, h4 => by
    simp only [firstM]
    rw [h4 i (Nat.le_refl _) (by omega), cond_false]
    exact firstM_none (by omega) (fun k hk => h4 k (by omega))
theorem place_at {s : Shf} {key : BA} {i : Nat} (hi : i < s.n) (h : ∀ j, j < i → eqB (s.pk j) key = false) (hp : eqB (s.pk i) key = true) : placeM s key = i ∧ hadM s key = true := by
  have : placeM s key = i := firstM_at (p := fun i => eqB (s.pk i) key) (by omega) (Nat.zero_le _) hi (fun k _ hk => h k hk) hp
  exact ⟨this, by unfold hadM; rw [this]; exact decide_eq_true hi⟩
theorem place_none {s : Shf} {key : BA} (h : ∀ j, j < s.n → eqB (s.pk j) key = false) : hadM s key = false := by
  have : placeM s key = s.n := firstM_none (p := fun i => eqB (s.pk i) key) (by omega) (fun k _ hk => h k hk)
  unfold hadM; rw [this]; simp
theorem placeVC_true (x : SK) (hx : x.ok) : placeVC x := by
  unfold placeVC
  have hn := hx.n
  simp only [hd_iff, and_true, true_and, Nat.zero_add, Nat.add_zero, unit_ex, unit_all, true_implies, implies_true, Int.toNat_natCast, eq_self, and_self, eL, lL]
  refine ⟨⟨0, ⟨by omega, fun j hj => by omega⟩, rfl⟩, fun i ⟨hi, hall⟩ => cP_intro (fun hb => ?_) (fun hb => ?_)⟩
  · have hb := of_decide_eq_true hb
    have hl : i < x.s.n := by omega
    refine ⟨⟨by omega, hb⟩, hl, cP_intro (fun h1 => ?_) (fun h1 => ?_)⟩
    · obtain ⟨e1, e2⟩ := place_at hl hall h1
      simp [placeI, e1, e2]
    · refine ⟨by unfold I64; omega, i + 1, ⟨by omega, fun j hj => ?_⟩, by omega, rfl⟩
      rcases Nat.lt_or_ge j i with h | h
      · exact hall j h
      · have : j = i := by omega
        subst this; exact h1
  · have : i = x.s.n := by have := of_decide_eq_false hb; omega
    subst this
    simp [placeI, place_none hall]
theorem getVC_true (x : SK) (hx : x.ok) : getVC x := by
  unfold getVC
  simp only [hd_iff, and_true, true_and, Nat.zero_add, Nat.add_zero, unit_ex, unit_all, true_implies, implies_true, Int.toNat_natCast, eq_self, and_self, eL, lL]
  refine ⟨x, hx, ⟨⟨rfl, rfl⟩, rfl⟩, ⟨⟨rfl, fun _ _ => rfl⟩, rfl, fun _ _ => rfl⟩, ?_⟩
  have hlt : hadM x.s x.key = true → placeM x.s x.key < x.s.n := of_decide_eq_true
  cases hh : hadM x.s x.key with
  | true =>
    have := hlt hh
    refine cP_intro (fun h => ?_) (fun h => ?_)
    · have := of_decide_eq_true h
      simp [placeI, hh] at this
      omega
    · simp [placeI, getM, hh]; omega
  | false =>
    refine cP_intro (fun h => ?_) (fun h => ?_)
    · simp [getM, hh]
    · have := of_decide_eq_false h
      simp [placeI, hh] at this
theorem rgetVC_true (x : SK) (hx : x.ok) : rgetVC x := by
  unfold rgetVC
  have hn := hx.n
  simp only [hd_iff, and_true, true_and, Nat.zero_add, Nat.add_zero, unit_ex, unit_all, true_implies, implies_true, Int.toNat_natCast, eq_self, and_self, eL, lL]
  refine ⟨⟨0, ⟨by omega, fun j hj => by omega⟩, rfl⟩, fun i ⟨hi, hall⟩ => cP_intro (fun hb => ?_) (fun hb => ?_)⟩
  · have hb := of_decide_eq_true hb
    have hl : i < x.s.n := by omega
    refine ⟨⟨by omega, hb⟩, hl, cP_intro (fun h1 => ?_) (fun h1 => ?_)⟩
    · obtain ⟨e1, e2⟩ := place_at hl hall h1
      exact ⟨⟨by omega, hb⟩, hl, by simp [getM, e1, e2], e2⟩
    · refine ⟨by unfold I64; omega, i + 1, ⟨by omega, fun j hj => ?_⟩, by omega, rfl⟩
      rcases Nat.lt_or_ge j i with h | h
      · exact hall j h
      · have : j = i := by omega
        subst this; exact h1
  · have : i = x.s.n := by have := of_decide_eq_false hb; omega
    subst this
    have := place_none hall
    simp [getM, this]
end Go.Proofs.Ytjndgegfonhhfaa
end
section
/- Good calls; calls and stores that are gone through: contracts. -/
namespace Go.Proofs.Ytjndgegfonhhfaa
open Go SE
noncomputable section
def Cll.os (c : Cll) : List AObj := [.ro (rowG c)]
def keyedC : Ctr := det Int (fun k => [i64 k]) 0 (fun _ => []) (fun _ => True) (fun k => boo (keyedM k)) 0 (fun _ => [])
def groupedC : Ctr := det Int (fun k => [i64 k]) 0 (fun _ => []) (fun _ => True) (fun k => boo (groupedM k)) 0 (fun _ => [])
def shapeC : Ctr := det Cll (fun c => [c.av 0]) 1 Cll.os (fun c => c.gn < 1099511627776) (fun c => boo (shapeM c)) 1 Cll.os
def longMemC : Ctr := det Mem (fun x => [x.av]) 0 (fun _ => []) (fun _ => True) (fun x => boo (longK x.kind x.key x.value x.to)) 0 (fun _ => [])
def longC : Ctr := det Cll (fun c => [c.av 0]) 1 Cll.os (fun c => Hd c.small) (fun c => boo (longM c)) 1 Cll.os
def goodC : Ctr := det Cll (fun c => [c.av 0]) 1 Cll.os (fun c => Hd c.small) (fun c => i64 (goodM c)) 1 Cll.os
def rshapeK (k : Int) (key : BA) : Int := bif keyedM k then b2i (emp key) else bif decide (k = 4) || decide (k = 5) || decide (k = 6) || decide (k = 8) then 0 else 1
def rshapeMemC : Ctr := det Mem (fun x => [x.av, boo true]) 0 (fun _ => []) (fun _ => True) (fun x => i64 (rshapeK x.kind x.key)) 0 (fun _ => [])
def rshapeC : Ctr := det Cll (fun c => [c.av 0, boo false]) 1 Cll.os (fun c => Hd c.small) (fun c => i64 (b2i (!shapeM c))) 1 Cll.os
def weightC : Ctr := { X := Cll, args := fun c => [c.av 0, i64 1500], k := 1, os := Cll.os, pre := fun _ => True, outs := [{ Y := Int, post := fun c y => Hd (y ≤ 1500 → c.small), ret := fun _ y => i64 y, m := 1, os := fun c _ => c.os }] }
def greatC : Ctr := { X := Shf, args := fun s => [s.av 0 1], k := 2, os := Shf.os, pre := fun _ => True, outs := [{ Y := Bool, post := fun s y => Hd (y = false → s.small), ret := fun _ y => boo y, m := 2, os := fun s _ => s.os }] }
def invMs (c : Cll) (i : Nat) : Prop := ∀ j, j < i → memOk c.g j = true
def clash (c : Cll) (i j : Nat) : Bool := keyedM (c.g i).kind && keyedM (c.g j).kind && eqB (c.g i).key (c.g j).key
def invJ (c : Cll) (i j : Nat) : Prop := ∀ q, q < j → clash c i q = false
def invLong (c : Cll) (i : Nat) : Prop := ∀ j, j < i → longK (c.g j).kind (c.g j).key (c.g j).value (c.g j).to = false
def invW (c : Cll) (p : Nat × Int) : Prop := 0 ≤ p.2 ∧ p.2 ≤ 4500 * (p.1 + 1) ∧ ∀ k, k < p.1 → (c.g k).small
def invG (s : Shf) (i : Nat) : Prop := ∀ k, k < i → (s.pk k).size ≤ 600 ∧ (s.pv k).size ≤ 600
def invQ (s : Shf) (i : Nat) : Prop := ∀ k, k < i → (s.qv k).size ≤ 600
def anShape (c : Cll) : FuncId → Anns := fun f => bif Nat.beq f 53 then (fun b fr _ =>
  bif Nat.beq b 0 then [{ σ := Nat, fr := fun i => [(41, i64 i)], ob := fun _ => [], inv := fun i => i ≤ c.gn ∧ Hd (invMs c i), meas := fun i => c.gn - i }] else
  bif Nat.beq b 2 then [{ σ := Nat, fr := fun j => [(65, i64 j)], ob := fun _ => [], inv := fun j => j ≤ (intAt fr 3).toNat ∧ Hd (invJ c (intAt fr 3).toNat j), meas := fun j => (intAt fr 3).toNat - j }] else []) else fun _ _ _ => []
def anLong (c : Cll) : FuncId → Anns := loopN 109 0 (fun i => [(8, i64 i)]) (fun i => Hd (invLong c i)) c.gn
def anRLong (c : Cll) : FuncId → Anns := loopN 73 1 (fun i => [(3, i64 i)]) (fun i => Hd (invLong c i)) c.gn
def anRShape (c : Cll) : FuncId → Anns := fun f => bif Nat.beq f 72 then (fun b fr _ =>
  bif Nat.beq b 1 then [{ σ := Nat, fr := fun i => [(5, i64 i)], ob := fun _ => [], inv := fun i => i ≤ c.gn ∧ Hd (invMs c i), meas := fun i => c.gn - i }] else
  bif Nat.beq b 3 then [{ σ := Nat, fr := fun j => [(7, i64 j)], ob := fun _ => [], inv := fun j => j ≤ (intAt fr 5).toNat ∧ Hd (invJ c (intAt fr 5).toNat j), meas := fun j => (intAt fr 5).toNat - j }] else []) else fun _ _ _ => []
def anWeight (c : Cll) : FuncId → Anns := fun f => bif Nat.beq f 10 then (fun b _ _ =>
  bif Nat.beq b 0 then [{ σ := Nat × Int, fr := fun p => [(6, i64 p.1), (5, i64 p.2)], ob := fun _ => [], inv := fun p => p.1 ≤ c.gn ∧ Hd (invW c p), meas := fun p => c.gn - p.1 }] else []) else fun _ _ _ => []
def anGreat (s : Shf) : FuncId → Anns := fun f => bif Nat.beq f 9 then (fun b _ _ =>
  bif Nat.beq b 0 then [{ σ := Nat, fr := fun i => [(3, i64 i)], ob := fun _ => [], inv := fun i => i ≤ s.n ∧ Hd (invG s i), meas := fun i => s.n - i }] else
  bif Nat.beq b 2 then [{ σ := Nat, fr := fun i => [(4, i64 i)], ob := fun _ => [], inv := fun i => i ≤ s.m ∧ Hd (invQ s i), meas := fun i => s.m - i }] else []) else fun _ _ _ => []
end
end Go.Proofs.Ytjndgegfonhhfaa
end
section
/- What is asked of good calls. -/
namespace Go.Proofs.Ytjndgegfonhhfaa
open Go SE
def tblK : WTbl := [(80, ctrT keyedC), (81, ctrT groupedC)]
def keyedVC_wp (x : Int) : Prop := wpF Try.prog [] tt noAn 200 5 80 (keyedC.args x) (hO keyedC.k (keyedC.os x)) (fun v h' => endsP keyedC.k x v h' keyedC.outs)
def keyedVC (x : Int) : Prop :=
  (cP (BEq.beq x (1 : Int)) (∃ (y : Unit), (True ∧ (((keyedM x) = Bool.true) ∧ True))) (cP (BEq.beq x (2 : Int)) (∃ (y : Unit), (True ∧ (((keyedM x) = Bool.true) ∧ True))) (∃ (y : Unit), (True ∧ (((keyedM x) = (BEq.beq x (3 : Int))) ∧ True)))))
theorem keyedVC_ok (x : Int) : keyedVC x = keyedVC_wp x := by kernel_rfl
def groupedVC_wp (x : Int) : Prop := wpF Try.prog [] tt noAn 200 5 81 (groupedC.args x) (hO groupedC.k (groupedC.os x)) (fun v h' => endsP groupedC.k x v h' groupedC.outs)
def groupedVC (x : Int) : Prop :=
  (cP (BEq.beq x (2 : Int)) (∃ (y : Unit), (True ∧ (((groupedM x) = Bool.true) ∧ True))) (cP (BEq.beq x (3 : Int)) (∃ (y : Unit), (True ∧ (((groupedM x) = Bool.true) ∧ True))) (∃ (y : Unit), (True ∧ (((groupedM x) = (BEq.beq x (4 : Int))) ∧ True)))))
theorem groupedVC_ok (x : Int) : groupedVC x = groupedVC_wp x := by kernel_rfl
def shapeVC_wp (x : Cll) : Prop := wpF Try.prog tblK tt (anShape x) 200 5 53 (shapeC.args x) (hO shapeC.k (shapeC.os x)) (fun v h' => endsP shapeC.k x v h' shapeC.outs)
def shapeVC_11 (x : Cll) : Prop := (((x.kind = x.kind) ∧ ((x.key = x.key) ∧ ((x.value = x.value) ∧ ((x.to = x.to) ∧ (((0 = 0) ∧ (x.gn = x.gn)) ∧ True))))) ∧ ((((rowG x) = (rowG x)) ∧ (Bool.true = Bool.true)) ∧ True))
def shapeVC_7 (x : Cll) (s : Nat) : Prop := ((((Mem.kind (Cll.g x (0 + s))) = (Mem.kind (Cll.g x (0 + s)))) ∧ (((Mem.key (Cll.g x (0 + s))) = (Mem.key (Cll.g x (0 + s)))) ∧ (((Mem.value (Cll.g x (0 + s))) = (Mem.value (Cll.g x (0 + s)))) ∧ (((Mem.to (Cll.g x (0 + s))) = (Mem.to (Cll.g x (0 + s)))) ∧ (((Value.slice (Mem.gp (Cll.g x (0 + s))) (Mem.gn (Cll.g x (0 + s))) (Mem.gc (Cll.g x (0 + s)))) = (Value.slice (Mem.gp (Cll.g x (0 + s))) (Mem.gn (Cll.g x (0 + s))) (Mem.gc (Cll.g x (0 + s))))) ∧ True))))) ∧ (shapeVC_11 x))
def shapeVC_9 (x : Cll) (s : Nat) (s_1 : Nat) : Prop := ((I64 (((s_1 : Nat) : Int) + (1 : Int))) ∧ (∃ (s_2 : Nat), (((s_2 ≤ (Int.toNat ((s : Nat) : Int))) ∧ (Hd (invJ x (Int.toNat ((s : Nat) : Int)) s_2))) ∧ ((((Int.toNat ((s : Nat) : Int)) - s_2) < ((Int.toNat ((s : Nat) : Int)) - s_1)) ∧ (((((s_2 : Nat) : Int) = (((s_1 : Nat) : Int) + (1 : Int))) ∧ True) ∧ (shapeVC_7 x s))))))
def shapeVC_10 (x : Cll) : Prop := (True ∧ (((shapeM x) = Bool.false) ∧ ((((rowG x) = (rowG x)) ∧ (Bool.true = Bool.true)) ∧ True)))
def shapeVC_1 (x : Cll) (s : Nat) (s_1 : Nat) : Prop := ((((0 : Int) ≤ ((s_1 : Nat) : Int)) ∧ (((s_1 : Nat) : Int) < (((s - 0) : Nat) : Int))) ∧ (((0 + s_1) < x.gn) ∧ (∃ (x_4 : Int), (True ∧ (((x_4 = (Mem.kind (Cll.g x (0 + s)))) ∧ True) ∧ (True ∧ (∀ (y_3 : Unit), (True → (cP (keyedM x_4) (∃ (x_5 : Int), (True ∧ (((x_5 = (Mem.kind (Cll.g x (0 + s_1)))) ∧ True) ∧ (True ∧ (∀ (y_4 : Unit), (True → (cP (keyedM x_5) (cP (@BEq.beq (@List UInt8) (@List.instBEq UInt8 (@instBEqOfDecidableEq UInt8 @instDecidableEqUInt8)) (@ByteArray.toList (Mem.key (Cll.g x (0 + s)))) (@ByteArray.toList (Mem.key (Cll.g x (0 + s_1))))) (∃ (y_5 : Unit), (shapeVC_10 x)) (shapeVC_9 x s s_1)) (shapeVC_9 x s s_1)))))))) (shapeVC_9 x s s_1))))))))))
def shapeVC_2 (x : Cll) (s : Nat) : Prop := (∃ (s_1 : Nat), (((s_1 ≤ (Int.toNat ((s : Nat) : Int))) ∧ (Hd (invJ x (Int.toNat ((s : Nat) : Int)) s_1))) ∧ (True ∧ (((((s_1 : Nat) : Int) = (0 : Int)) ∧ True) ∧ (shapeVC_7 x s)))))
def shapeVC_3 (x : Cll) (s : Nat) : Prop := ((I64 (((s : Nat) : Int) + (1 : Int))) ∧ (∃ (s_2 : Nat), (((s_2 ≤ x.gn) ∧ (Hd (invMs x s_2))) ∧ (((x.gn - s_2) < (x.gn - s)) ∧ (((((s_2 : Nat) : Int) = (((s : Nat) : Int) + (1 : Int))) ∧ True) ∧ (shapeVC_11 x))))))
def shapeVC_4 (x : Cll) : Prop := (∃ (y_1 : Unit), (shapeVC_10 x))
def shapeVC_5 (x : Cll) : Prop := (∃ (y_1 : Unit), (True ∧ (((shapeM x) = Bool.true) ∧ ((((rowG x) = (rowG x)) ∧ (Bool.true = Bool.true)) ∧ True))))
def shapeVC_6 (x : Cll) : Prop := (∃ (s : Nat), (((s ≤ x.gn) ∧ (Hd (invMs x s))) ∧ (True ∧ (((((s : Nat) : Int) = (0 : Int)) ∧ True) ∧ (shapeVC_11 x)))))
def shapeVC_12 (x : Cll) (s : Nat) : Prop := (((0 : Int) ≤ ((s : Nat) : Int)) ∧ (((0 ≤ s) ∧ ((s ≤ x.gn) ∧ (x.gn ≤ x.gn))) ∧ ((shapeVC_2 x s) ∧ ((∀ (s_1 : Nat), (((s_1 ≤ (Int.toNat ((s : Nat) : Int))) ∧ (Hd (invJ x (Int.toNat ((s : Nat) : Int)) s_1))) → (cP (decide (((s_1 : Nat) : Int) < (((s - 0) : Nat) : Int))) (shapeVC_1 x s s_1) (shapeVC_3 x s)))) ∧ True))))
def shapeVC_8 (x : Cll) : Prop := ((shapeVC_6 x) ∧ ((∀ (s : Nat), (((s ≤ x.gn) ∧ (Hd (invMs x s))) → (cP (decide (((s : Nat) : Int) < ((x.gn : Nat) : Int))) ((((0 : Int) ≤ ((s : Nat) : Int)) ∧ (((s : Nat) : Int) < ((x.gn : Nat) : Int))) ∧ (((0 + s) < x.gn) ∧ (∃ (x_2 : Int), (True ∧ (((x_2 = (Mem.kind (Cll.g x (0 + s)))) ∧ True) ∧ (True ∧ (∀ (y_1 : Unit), (True → (cP (@Bool.not (groupedM x_2)) (∃ (y_2 : Unit), (shapeVC_10 x)) (∃ (x_3 : Int), (True ∧ (((x_3 = (Mem.kind (Cll.g x (0 + s)))) ∧ True) ∧ (True ∧ (∀ (y_2 : Unit), (True → (cP (keyedM x_3) (cP (@BEq.beq (@List UInt8) (@List.instBEq UInt8 (@instBEqOfDecidableEq UInt8 @instDecidableEqUInt8)) (@ByteArray.toList (Mem.key (Cll.g x (0 + s)))) (@ByteArray.toList (@ByteArray.mk (@List.toArray UInt8 (@List.nil UInt8))))) (∃ (y_3 : Unit), (shapeVC_10 x)) (shapeVC_12 x s)) (shapeVC_12 x s))))))))))))))))) (shapeVC_5 x)))) ∧ True))
def shapeVC (x : Cll) : Prop :=
  (cP (decide (x.kind < (1 : Int))) (∃ (y : Unit), (shapeVC_10 x)) (cP (decide (@GT.gt Int @Int.instLTInt x.kind (8 : Int))) (∃ (y : Unit), (shapeVC_10 x)) (∃ (x_1 : Int), (True ∧ (((x_1 = x.kind) ∧ True) ∧ (True ∧ (∀ (y : Unit), (True → (cP (keyedM x_1) (cP (@BEq.beq (@List UInt8) (@List.instBEq UInt8 (@instBEqOfDecidableEq UInt8 @instDecidableEqUInt8)) (@ByteArray.toList x.key) (@ByteArray.toList (@ByteArray.mk (@List.toArray UInt8 (@List.nil UInt8))))) (shapeVC_4 x) (cP (bne x.kind (7 : Int)) (shapeVC_5 x) (cP (decide (((x.gn : Nat) : Int) < (1 : Int))) (shapeVC_4 x) (cP (decide (@GT.gt Int @Int.instLTInt ((x.gn : Nat) : Int) (3 : Int))) (shapeVC_4 x) (shapeVC_8 x))))) (cP (bne x.kind (7 : Int)) (shapeVC_5 x) (cP (decide (((x.gn : Nat) : Int) < (1 : Int))) (shapeVC_4 x) (cP (decide (@GT.gt Int @Int.instLTInt ((x.gn : Nat) : Int) (3 : Int))) (shapeVC_4 x) (shapeVC_8 x)))))))))))))
theorem shapeVC_ok (x : Cll) : shapeVC x = shapeVC_wp x := by kernel_rfl
def longMemVC_wp (x : Mem) : Prop := wpF Try.prog [] tt noAn 200 5 54 (longMemC.args x) (hO longMemC.k (longMemC.os x)) (fun v h' => endsP longMemC.k x v h' longMemC.outs)
def longMemVC (x : Mem) : Prop :=
  (cP (BEq.beq (Mem.kind x) (1 : Int)) (∃ (y : Unit), (True ∧ (((longK (Mem.kind x) (Mem.key x) (Mem.value x) (Mem.to x)) = (decide (@GT.gt Int @Int.instLTInt (((@ByteArray.size (Mem.key x)) : Nat) : Int) (16 : Int)))) ∧ True))) (cP (BEq.beq (Mem.kind x) (3 : Int)) (∃ (y : Unit), (True ∧ (((longK (Mem.kind x) (Mem.key x) (Mem.value x) (Mem.to x)) = (decide (@GT.gt Int @Int.instLTInt (((@ByteArray.size (Mem.key x)) : Nat) : Int) (16 : Int)))) ∧ True))) (cP (BEq.beq (Mem.kind x) (2 : Int)) (cP (decide (@GT.gt Int @Int.instLTInt (((@ByteArray.size (Mem.key x)) : Nat) : Int) (16 : Int))) (∃ (y : Unit), (True ∧ (((longK (Mem.kind x) (Mem.key x) (Mem.value x) (Mem.to x)) = Bool.true) ∧ True))) (∃ (y : Unit), (True ∧ (((longK (Mem.kind x) (Mem.key x) (Mem.value x) (Mem.to x)) = (decide (@GT.gt Int @Int.instLTInt (((@ByteArray.size (Mem.value x)) : Nat) : Int) (400 : Int)))) ∧ True)))) (cP (BEq.beq (Mem.kind x) (4 : Int)) (∃ (y : Unit), (True ∧ (((longK (Mem.kind x) (Mem.key x) (Mem.value x) (Mem.to x)) = (decide (@GT.gt Int @Int.instLTInt (((@ByteArray.size (Mem.value x)) : Nat) : Int) (400 : Int)))) ∧ True))) (cP (BEq.beq (Mem.kind x) (6 : Int)) (cP (decide (@GT.gt Int @Int.instLTInt (((@ByteArray.size (Mem.key x)) : Nat) : Int) (16 : Int))) (∃ (y : Unit), (True ∧ (((longK (Mem.kind x) (Mem.key x) (Mem.value x) (Mem.to x)) = Bool.true) ∧ True))) (∃ (y : Unit), (True ∧ (((longK (Mem.kind x) (Mem.key x) (Mem.value x) (Mem.to x)) = (decide (@GT.gt Int @Int.instLTInt (((@ByteArray.size (Mem.to x)) : Nat) : Int) (16 : Int)))) ∧
 True)))) (cP (BEq.beq (Mem.kind x) (7 : Int)) (∃ (y : Unit), (True ∧ (((longK (Mem.kind x) (Mem.key x) (Mem.value x) (Mem.to x)) = Bool.false) ∧ True))) (∃ (y : Unit), (True ∧ (((longK (Mem.kind x) (Mem.key x) (Mem.value x) (Mem.to x)) = Bool.false) ∧ True)))))))))
theorem longMemVC_ok (x : Mem) : longMemVC x = longMemVC_wp x := by kernel_rfl
def longVC_wp (x : Cll) : Prop := wpF Try.prog [(54, ctrT longMemC)] tt (anLong x) 200 5 54 (longC.args x) (hO longC.k (longC.os x)) (fun v h' => endsP longC.k x v h' longC.outs)
def longVC (x : Cll) : Prop :=
  (cP (BEq.beq x.kind (1 : Int)) (∃ (y : Unit), (True ∧ (((longM x) = (decide (@GT.gt Int @Int.instLTInt (((@ByteArray.size x.key) : Nat) : Int) (16 : Int)))) ∧ ((((rowG x) = (rowG x)) ∧ (Bool.true = Bool.true)) ∧ True)))) (cP (BEq.beq x.kind (3 : Int)) (∃ (y : Unit), (True ∧ (((longM x) = (decide (@GT.gt Int @Int.instLTInt (((@ByteArray.size x.key) : Nat) : Int) (16 : Int)))) ∧ ((((rowG x) = (rowG x)) ∧ (Bool.true = Bool.true)) ∧ True)))) (cP (BEq.beq x.kind (2 : Int)) (cP (decide (@GT.gt Int @Int.instLTInt (((@ByteArray.size x.key) : Nat) : Int) (16 : Int))) (∃ (y : Unit), (True ∧ (((longM x) = Bool.true) ∧ ((((rowG x) = (rowG x)) ∧ (Bool.true = Bool.true)) ∧ True)))) (∃ (y : Unit), (True ∧ (((longM x) = (decide (@GT.gt Int @Int.instLTInt (((@ByteArray.size x.value) : Nat) : Int) (400 : Int)))) ∧ ((((rowG x) = (rowG x)) ∧ (Bool.true = Bool.true)) ∧ True))))) (cP (BEq.beq x.kind (4 : Int)) (∃ (y : Unit), (True ∧ (((longM x) = (decide (@GT.gt Int @Int.instLTInt (((@ByteArray.size x.value) : Nat) : Int) (400 : Int)))) ∧ ((((rowG x) = (rowG x)) ∧ (Bool.true = Bool.true)) ∧ True)))) (cP (BEq.beq x.kind (6 : Int)) (cP (decide (@GT.gt Int @Int.instLTInt (((@ByteArray.size x.key) : Nat) : Int) (16 : Int))) (∃ (y : Unit), (True ∧ (((longM x) = Bool.true) ∧ ((((rowG x) = (rowG x)) ∧ (Bool.true = Bool.true)) ∧ True)))) (∃ (y : Unit), (True ∧ (((longM x) = (decide (@GT.gt Int @Int.instLTInt (((@ByteArray.size x.to) : Nat) : Int) (16 : Int)))) ∧ ((((rowG x) = (rowG x)) ∧ (Bool.true = Bool.true)) ∧
 True))))) (cP (BEq.beq x.kind (7 : Int)) ((∃ (s : Nat), (((s ≤ x.gn) ∧ (Hd (invLong x s))) ∧ (True ∧ (((((s : Nat) : Int) = (0 : Int)) ∧ True) ∧ (((x.kind = x.kind) ∧ ((x.key = x.key) ∧ ((x.value = x.value) ∧ ((x.to = x.to) ∧ (((0 = 0) ∧ (x.gn = x.gn)) ∧ True))))) ∧ ((((rowG x) = (rowG x)) ∧ (Bool.true = Bool.true)) ∧ True)))))) ∧ ((∀ (s : Nat), (((s ≤ x.gn) ∧ (Hd (invLong x s))) → (cP (decide (((s : Nat) : Int) < ((x.gn : Nat) : Int))) ((((0 : Int) ≤ ((s : Nat) : Int)) ∧ (((s : Nat) : Int) < ((x.gn : Nat) : Int))) ∧ (((0 + s) < x.gn) ∧ (∃ (x_1 : Mem), (True ∧ (((((Mem.kind x_1) = (Mem.kind (Cll.g x (0 + s)))) ∧ (((Mem.key x_1) = (Mem.key (Cll.g x (0 + s)))) ∧ (((Mem.value x_1) = (Mem.value (Cll.g x (0 + s)))) ∧ (((Mem.to x_1) = (Mem.to (Cll.g x (0 + s)))) ∧ (((Value.slice (Mem.gp x_1) 0 (Mem.gc x_1)) = (Value.slice (Mem.gp (Cll.g x (0 + s))) (Mem.gn (Cll.g x (0 + s))) (Mem.gc (Cll.g x (0 + s))))) ∧ True))))) ∧ True) ∧ (True ∧ (∀ (y : Unit), (True → (cP (longK (Mem.kind x_1) (Mem.key x_1) (Mem.value x_1) (Mem.to x_1)) (∃ (y_1 : Unit), (True ∧ (((longM x) = (decide (@GE.ge Int @Int.instLEInt ((s : Nat) : Int) (0 : Int)))) ∧ ((((rowG x) = (rowG x)) ∧ (Bool.true = Bool.true)) ∧ True)))) ((I64 (((s : Nat) : Int) + (1 : Int))) ∧ (∃ (s_1 : Nat), (((s_1 ≤ x.gn) ∧ (Hd (invLong x s_1))) ∧ (((x.gn - s_1) < (x.gn - s)) ∧ (((((s_1 : Nat) : Int) = (((s : Nat) : Int) + (1 : Int))) ∧ True) ∧ (((x.kind = x.kind) ∧ ((x.key = x.key) ∧ ((x.value = x.value) ∧ ((x.to = x.to) ∧ (((0 = 0) ∧ (x.gn = x.gn)) ∧
 True))))) ∧ ((((rowG x) = (rowG x)) ∧ (Bool.true = Bool.true)) ∧ True)))))))))))))))) (∃ (y : Unit), (True ∧ (((longM x) = Bool.false) ∧ ((((rowG x) = (rowG x)) ∧ (Bool.true = Bool.true)) ∧ True))))))) ∧ True)) (∃ (y : Unit), (True ∧ (((longM x) = Bool.false) ∧ ((((rowG x) = (rowG x)) ∧ (Bool.true = Bool.true)) ∧ True))))))))))
theorem longVC_ok (x : Cll) : longVC x = longVC_wp x := by kernel_rfl
def rlongMemVC_wp (x : Mem) : Prop := wpF Try.prog [] tt noAn 200 5 73 (longMemC.args x) (hO longMemC.k (longMemC.os x)) (fun v h' => endsP longMemC.k x v h' longMemC.outs)
def rlongMemVC (x : Mem) : Prop :=
  (cP (BEq.beq (Mem.kind x) (1 : Int)) (∃ (y : Unit), (True ∧ (((longK (Mem.kind x) (Mem.key x) (Mem.value x) (Mem.to x)) = (decide (@GT.gt Int @Int.instLTInt (((@ByteArray.size (Mem.key x)) : Nat) : Int) (16 : Int)))) ∧ True))) (cP (BEq.beq (Mem.kind x) (3 : Int)) (∃ (y : Unit), (True ∧ (((longK (Mem.kind x) (Mem.key x) (Mem.value x) (Mem.to x)) = (decide (@GT.gt Int @Int.instLTInt (((@ByteArray.size (Mem.key x)) : Nat) : Int) (16 : Int)))) ∧ True))) (cP (BEq.beq (Mem.kind x) (2 : Int)) (cP (decide (@GT.gt Int @Int.instLTInt (((@ByteArray.size (Mem.key x)) : Nat) : Int) (16 : Int))) (∃ (y : Unit), (True ∧ (((longK (Mem.kind x) (Mem.key x) (Mem.value x) (Mem.to x)) = Bool.true) ∧ True))) (∃ (y : Unit), (True ∧ (((longK (Mem.kind x) (Mem.key x) (Mem.value x) (Mem.to x)) = (decide (@GT.gt Int @Int.instLTInt (((@ByteArray.size (Mem.value x)) : Nat) : Int) (400 : Int)))) ∧ True)))) (cP (BEq.beq (Mem.kind x) (4 : Int)) (∃ (y : Unit), (True ∧ (((longK (Mem.kind x) (Mem.key x) (Mem.value x) (Mem.to x)) = (decide (@GT.gt Int @Int.instLTInt (((@ByteArray.size (Mem.value x)) : Nat) : Int) (400 : Int)))) ∧ True))) (cP (BEq.beq (Mem.kind x) (6 : Int)) (cP (decide (@GT.gt Int @Int.instLTInt (((@ByteArray.size (Mem.key x)) : Nat) : Int) (16 : Int))) (∃ (y : Unit), (True ∧ (((longK (Mem.kind x) (Mem.key x) (Mem.value x) (Mem.to x)) = Bool.true) ∧ True))) (∃ (y : Unit), (True ∧ (((longK (Mem.kind x) (Mem.key x) (Mem.value x) (Mem.to x)) = (decide (@GT.gt Int @Int.instLTInt (((@ByteArray.size (Mem.to x)) : Nat) : Int) (16 : Int)))) ∧
 True)))) (cP (BEq.beq (Mem.kind x) (7 : Int)) (∃ (y : Unit), (True ∧ (((longK (Mem.kind x) (Mem.key x) (Mem.value x) (Mem.to x)) = Bool.false) ∧ True))) (∃ (y : Unit), (True ∧ (((longK (Mem.kind x) (Mem.key x) (Mem.value x) (Mem.to x)) = Bool.false) ∧ True)))))))))
theorem rlongMemVC_ok (x : Mem) : rlongMemVC x = rlongMemVC_wp x := by kernel_rfl
def rlongVC_wp (x : Cll) : Prop := wpF Try.prog [(73, ctrT longMemC)] tt (anRLong x) 200 5 73 (longC.args x) (hO longC.k (longC.os x)) (fun v h' => endsP longC.k x v h' longC.outs)
def rlongVC (x : Cll) : Prop :=
  (cP (BEq.beq x.kind (1 : Int)) (∃ (y : Unit), (True ∧ (((longM x) = (decide (@GT.gt Int @Int.instLTInt (((@ByteArray.size x.key) : Nat) : Int) (16 : Int)))) ∧ ((((rowG x) = (rowG x)) ∧ (Bool.true = Bool.true)) ∧ True)))) (cP (BEq.beq x.kind (3 : Int)) (∃ (y : Unit), (True ∧ (((longM x) = (decide (@GT.gt Int @Int.instLTInt (((@ByteArray.size x.key) : Nat) : Int) (16 : Int)))) ∧ ((((rowG x) = (rowG x)) ∧ (Bool.true = Bool.true)) ∧ True)))) (cP (BEq.beq x.kind (2 : Int)) (cP (decide (@GT.gt Int @Int.instLTInt (((@ByteArray.size x.key) : Nat) : Int) (16 : Int))) (∃ (y : Unit), (True ∧ (((longM x) = Bool.true) ∧ ((((rowG x) = (rowG x)) ∧ (Bool.true = Bool.true)) ∧ True)))) (∃ (y : Unit), (True ∧ (((longM x) = (decide (@GT.gt Int @Int.instLTInt (((@ByteArray.size x.value) : Nat) : Int) (400 : Int)))) ∧ ((((rowG x) = (rowG x)) ∧ (Bool.true = Bool.true)) ∧ True))))) (cP (BEq.beq x.kind (4 : Int)) (∃ (y : Unit), (True ∧ (((longM x) = (decide (@GT.gt Int @Int.instLTInt (((@ByteArray.size x.value) : Nat) : Int) (400 : Int)))) ∧ ((((rowG x) = (rowG x)) ∧ (Bool.true = Bool.true)) ∧ True)))) (cP (BEq.beq x.kind (6 : Int)) (cP (decide (@GT.gt Int @Int.instLTInt (((@ByteArray.size x.key) : Nat) : Int) (16 : Int))) (∃ (y : Unit), (True ∧ (((longM x) = Bool.true) ∧ ((((rowG x) = (rowG x)) ∧ (Bool.true = Bool.true)) ∧ True)))) (∃ (y : Unit), (True ∧ (((longM x) = (decide (@GT.gt Int @Int.instLTInt (((@ByteArray.size x.to) : Nat) : Int) (16 : Int)))) ∧ ((((rowG x) = (rowG x)) ∧ (Bool.true = Bool.true)) ∧
 True))))) (cP (BEq.beq x.kind (7 : Int)) ((∃ (s : Nat), (((s ≤ x.gn) ∧ (Hd (invLong x s))) ∧ (True ∧ (((((s : Nat) : Int) = (0 : Int)) ∧ True) ∧ (((x.kind = x.kind) ∧ ((x.key = x.key) ∧ ((x.value = x.value) ∧ ((x.to = x.to) ∧ (((0 = 0) ∧ (x.gn = x.gn)) ∧ True))))) ∧ ((((rowG x) = (rowG x)) ∧ (Bool.true = Bool.true)) ∧ True)))))) ∧ ((∀ (s : Nat), (((s ≤ x.gn) ∧ (Hd (invLong x s))) → (cP (decide (((s : Nat) : Int) < ((x.gn : Nat) : Int))) ((((0 : Int) ≤ ((s : Nat) : Int)) ∧ (((s : Nat) : Int) < ((x.gn : Nat) : Int))) ∧ (((0 + s) < x.gn) ∧ (∃ (x_1 : Mem), (True ∧ (((((Mem.kind x_1) = (Mem.kind (Cll.g x (0 + s)))) ∧ (((Mem.key x_1) = (Mem.key (Cll.g x (0 + s)))) ∧ (((Mem.value x_1) = (Mem.value (Cll.g x (0 + s)))) ∧ (((Mem.to x_1) = (Mem.to (Cll.g x (0 + s)))) ∧ (((Value.slice (Mem.gp x_1) 0 (Mem.gc x_1)) = (Value.slice (Mem.gp (Cll.g x (0 + s))) (Mem.gn (Cll.g x (0 + s))) (Mem.gc (Cll.g x (0 + s))))) ∧ True))))) ∧ True) ∧ (True ∧ (∀ (y : Unit), (True → (cP (longK (Mem.kind x_1) (Mem.key x_1) (Mem.value x_1) (Mem.to x_1)) (∃ (y_1 : Unit), (True ∧ (((longM x) = Bool.true) ∧ ((((rowG x) = (rowG x)) ∧ (Bool.true = Bool.true)) ∧ True)))) ((I64 (((s : Nat) : Int) + (1 : Int))) ∧ (∃ (s_1 : Nat), (((s_1 ≤ x.gn) ∧ (Hd (invLong x s_1))) ∧ (((x.gn - s_1) < (x.gn - s)) ∧ (((((s_1 : Nat) : Int) = (((s : Nat) : Int) + (1 : Int))) ∧ True) ∧ (((x.kind = x.kind) ∧ ((x.key = x.key) ∧ ((x.value = x.value) ∧ ((x.to = x.to) ∧ (((0 = 0) ∧ (x.gn = x.gn)) ∧ True))))) ∧ ((((rowG x) = (rowG x)) ∧ (Bool.true = Bool.true)) ∧
 True)))))))))))))))) (∃ (y : Unit), (True ∧ (((longM x) = Bool.false) ∧ ((((rowG x) = (rowG x)) ∧ (Bool.true = Bool.true)) ∧ True))))))) ∧ True)) (∃ (y : Unit), (True ∧ (((longM x) = Bool.false) ∧ ((((rowG x) = (rowG x)) ∧ (Bool.true = Bool.true)) ∧ True))))))))))
theorem rlongVC_ok (x : Cll) : rlongVC x = rlongVC_wp x := by kernel_rfl
def rshapeMemVC_wp (x : Mem) : Prop := wpF Try.prog [] tt noAn 200 5 72 (rshapeMemC.args x) (hO rshapeMemC.k (rshapeMemC.os x)) (fun v h' => endsP rshapeMemC.k x v h' rshapeMemC.outs)
def rshapeMemVC (x : Mem) : Prop :=
  (cP (BEq.beq (Mem.kind x) (1 : Int)) (cP (@BEq.beq (@List UInt8) (@List.instBEq UInt8 (@instBEqOfDecidableEq UInt8 @instDecidableEqUInt8)) (@ByteArray.toList (Mem.key x)) (@ByteArray.toList (@ByteArray.mk (@List.toArray UInt8 (@List.nil UInt8))))) (∃ (y : Unit), (True ∧ (((@rshapeK (Mem.kind x) (Mem.key x)) = (1 : Int)) ∧ True))) (∃ (y : Unit), (True ∧ (((@rshapeK (Mem.kind x) (Mem.key x)) = (0 : Int)) ∧ True)))) (cP (BEq.beq (Mem.kind x) (2 : Int)) (cP (@BEq.beq (@List UInt8) (@List.instBEq UInt8 (@instBEqOfDecidableEq UInt8 @instDecidableEqUInt8)) (@ByteArray.toList (Mem.key x)) (@ByteArray.toList (@ByteArray.mk (@List.toArray UInt8 (@List.nil UInt8))))) (∃ (y : Unit), (True ∧ (((@rshapeK (Mem.kind x) (Mem.key x)) = (1 : Int)) ∧ True))) (∃ (y : Unit), (True ∧ (((@rshapeK (Mem.kind x) (Mem.key x)) = (0 : Int)) ∧ True)))) (cP (BEq.beq (Mem.kind x) (3 : Int)) (cP (@BEq.beq (@List UInt8) (@List.instBEq UInt8 (@instBEqOfDecidableEq UInt8 @instDecidableEqUInt8)) (@ByteArray.toList (Mem.key x)) (@ByteArray.toList (@ByteArray.mk (@List.toArray UInt8 (@List.nil UInt8))))) (∃ (y : Unit), (True ∧ (((@rshapeK (Mem.kind x) (Mem.key x)) = (1 : Int)) ∧ True))) (∃ (y : Unit), (True ∧ (((@rshapeK (Mem.kind x) (Mem.key x)) = (0 : Int)) ∧ True)))) (cP (BEq.beq (Mem.kind x) (4 : Int)) (∃ (y : Unit), (True ∧ (((@rshapeK (Mem.kind x) (Mem.key x)) = (0 : Int)) ∧ True))) (cP (BEq.beq (Mem.kind x) (5 : Int)) (∃ (y : Unit), (True ∧ (((@rshapeK (Mem.kind x) (Mem.key x)) = (0 : Int)) ∧ True))) (cP (BEq.beq (Mem.kind x) (6 : Int)) (∃ (y : Unit), (True ∧
 (((@rshapeK (Mem.kind x) (Mem.key x)) = (0 : Int)) ∧ True))) (cP (BEq.beq (Mem.kind x) (8 : Int)) (∃ (y : Unit), (True ∧ (((@rshapeK (Mem.kind x) (Mem.key x)) = (0 : Int)) ∧ True))) (cP (BEq.beq (Mem.kind x) (7 : Int)) (∃ (y : Unit), (True ∧ (((@rshapeK (Mem.kind x) (Mem.key x)) = (1 : Int)) ∧ True))) (∃ (y : Unit), (True ∧ (((@rshapeK (Mem.kind x) (Mem.key x)) = (1 : Int)) ∧ True)))))))))))
theorem rshapeMemVC_ok (x : Mem) : rshapeMemVC x = rshapeMemVC_wp x := by kernel_rfl
def rshapeVC_wp (x : Cll) : Prop := wpF Try.prog [(72, ctrT rshapeMemC)] tt (anRShape x) 200 5 72 (rshapeC.args x) (hO rshapeC.k (rshapeC.os x)) (fun v h' => endsP rshapeC.k x v h' rshapeC.outs)
def rshapeVC_6 (x : Cll) : Prop := (((x.kind = x.kind) ∧ ((x.key = x.key) ∧ ((x.value = x.value) ∧ ((x.to = x.to) ∧ (((0 = 0) ∧ (x.gn = x.gn)) ∧ True))))) ∧ ((((rowG x) = (rowG x)) ∧ (Bool.true = Bool.true)) ∧ True))
def rshapeVC_4 (x : Cll) (s : Nat) (s_1 : Nat) : Prop := ((I64 (((s_1 : Nat) : Int) + (1 : Int))) ∧ (∃ (s_2 : Nat), (((s_2 ≤ (Int.toNat ((s : Nat) : Int))) ∧ (Hd (invJ x (Int.toNat ((s : Nat) : Int)) s_2))) ∧ ((((Int.toNat ((s : Nat) : Int)) - s_2) < ((Int.toNat ((s : Nat) : Int)) - s_1)) ∧ (((((s_2 : Nat) : Int) = (((s_1 : Nat) : Int) + (1 : Int))) ∧ True) ∧ (rshapeVC_6 x))))))
def rshapeVC_5 (x : Cll) : Prop := (True ∧ (((@b2i (@Bool.not (shapeM x))) = (1 : Int)) ∧ ((((rowG x) = (rowG x)) ∧ (Bool.true = Bool.true)) ∧ True)))
def rshapeVC_1 (x : Cll) (s : Nat) : Prop := ((((0 : Int) ≤ ((s : Nat) : Int)) ∧ (((s : Nat) : Int) < ((x.gn : Nat) : Int))) ∧ (((0 + s) < x.gn) ∧ (∃ (x_1 : Mem), (True ∧ (((((Mem.kind x_1) = (Mem.kind (Cll.g x (0 + s)))) ∧ (((Mem.key x_1) = (Mem.key (Cll.g x (0 + s)))) ∧ (((Mem.value x_1) = (Mem.value (Cll.g x (0 + s)))) ∧ (((Mem.to x_1) = (Mem.to (Cll.g x (0 + s)))) ∧ (((Value.slice (Mem.gp x_1) 0 (Mem.gc x_1)) = (Value.slice (Mem.gp (Cll.g x (0 + s))) (Mem.gn (Cll.g x (0 + s))) (Mem.gc (Cll.g x (0 + s))))) ∧ True))))) ∧ ((Bool.true = Bool.true) ∧ True)) ∧ (True ∧ (∀ (y : Unit), (True → (cP (bne (@rshapeK (Mem.kind x_1) (Mem.key x_1)) (0 : Int)) (∃ (y_1 : Unit), (rshapeVC_5 x)) ((∃ (s_1 : Nat), (((s_1 ≤ (Int.toNat ((s : Nat) : Int))) ∧ (Hd (invJ x (Int.toNat ((s : Nat) : Int)) s_1))) ∧ (True ∧ (((((s_1 : Nat) : Int) = (0 : Int)) ∧ True) ∧ (rshapeVC_6 x))))) ∧ ((∀ (s_1 : Nat), (((s_1 ≤ (Int.toNat ((s : Nat) : Int))) ∧ (Hd (invJ x (Int.toNat ((s : Nat) : Int)) s_1))) → (cP (decide (((s_1 : Nat) : Int) < ((s : Nat) : Int))) (cP (bne (Mem.kind (Cll.g x (0 + s))) (4 : Int)) ((((0 : Int) ≤ ((s_1 : Nat) : Int)) ∧ (((s_1 : Nat) : Int) < ((x.gn : Nat) : Int))) ∧ (((0 + s_1) < x.gn) ∧ (cP (bne (Mem.kind (Cll.g x (0 + s_1))) (4 : Int)) ((((0 : Int) ≤ ((s : Nat) : Int)) ∧ (((s : Nat) : Int) < ((x.gn : Nat) : Int))) ∧ (((0 + s) < x.gn) ∧ ((((0 : Int) ≤ ((s_1 : Nat) : Int)) ∧ (((s_1 : Nat) : Int) < ((x.gn : Nat) : Int))) ∧ (((0 + s_1) < x.gn) ∧ (cP (@BEq.beq (@List UInt8) (@List.instBEq UInt8 (@instBEqOfDecidableEq UInt8 @instDecidableEqUInt8)) (@ByteArray.toList (Mem.key (Cll.g x (0 + s)))) (@ByteArray.toList (Mem.key (Cll.g x (0 + s_1))))) (∃ (y_1 : Unit), (rshapeVC_5 x)) (rshapeVC_4 x s s_1)))))) (rshapeVC_4 x s s_1)))) (rshapeVC_4 x s s_1)) ((I64 (((s : Nat) : Int) + (1 : Int))) ∧ (∃ (s_2 : Nat), (((s_2 ≤ x.gn) ∧ (Hd (invMs x s_2))) ∧ (((x.gn - s_2) < (x.gn - s)) ∧ (((((s_2 : Nat) : Int) = (((s : Nat) : Int) + (1 : Int))) ∧ True) ∧ (rshapeVC_6 x))))))))) ∧ True)))))))))))
def rshapeVC_2 (x : Cll) : Prop := (∃ (y : Unit), (True ∧ (((@b2i (@Bool.not (shapeM x))) = (0 : Int)) ∧ ((((rowG x) = (rowG x)) ∧ (Bool.true = Bool.true)) ∧ True))))
def rshapeVC_3 (x : Cll) : Prop := (∃ (y : Unit), (rshapeVC_5 x))
def rshapeVC (x : Cll) : Prop :=
  (cP (BEq.beq x.kind (1 : Int)) (cP (@BEq.beq (@List UInt8) (@List.instBEq UInt8 (@instBEqOfDecidableEq UInt8 @instDecidableEqUInt8)) (@ByteArray.toList x.key) (@ByteArray.toList (@ByteArray.mk (@List.toArray UInt8 (@List.nil UInt8))))) (rshapeVC_3 x) (rshapeVC_2 x)) (cP (BEq.beq x.kind (2 : Int)) (cP (@BEq.beq (@List UInt8) (@List.instBEq UInt8 (@instBEqOfDecidableEq UInt8 @instDecidableEqUInt8)) (@ByteArray.toList x.key) (@ByteArray.toList (@ByteArray.mk (@List.toArray UInt8 (@List.nil UInt8))))) (rshapeVC_3 x) (rshapeVC_2 x)) (cP (BEq.beq x.kind (3 : Int)) (cP (@BEq.beq (@List UInt8) (@List.instBEq UInt8 (@instBEqOfDecidableEq UInt8 @instDecidableEqUInt8)) (@ByteArray.toList x.key) (@ByteArray.toList (@ByteArray.mk (@List.toArray UInt8 (@List.nil UInt8))))) (rshapeVC_3 x) (rshapeVC_2 x)) (cP (BEq.beq x.kind (4 : Int)) (rshapeVC_2 x) (cP (BEq.beq x.kind (5 : Int)) (rshapeVC_2 x) (cP (BEq.beq x.kind (6 : Int)) (rshapeVC_2 x) (cP (BEq.beq x.kind (8 : Int)) (rshapeVC_2 x) (cP (BEq.beq x.kind (7 : Int)) (cP (decide (((x.gn : Nat) : Int) < (1 : Int))) (rshapeVC_3 x) (cP (decide (@GT.gt Int @Int.instLTInt ((x.gn : Nat) : Int) (3 : Int))) (rshapeVC_3 x) ((∃ (s : Nat), (((s ≤ x.gn) ∧ (Hd (invMs x s))) ∧ (True ∧ (((((s : Nat) : Int) = (0 : Int)) ∧ True) ∧ (rshapeVC_6 x))))) ∧ ((∀ (s : Nat), (((s ≤ x.gn) ∧ (Hd (invMs x s))) → (cP (decide (((s : Nat) : Int) < ((x.gn : Nat) : Int))) ((((0 : Int) ≤ ((s : Nat) : Int)) ∧ (((s : Nat) : Int) < ((x.gn : Nat) : Int))) ∧ (((0 + s) < x.gn) ∧ (cP (bne (Mem.kind (Cll.g x (0 + s))) (2 : Int)) (cP (bne (Mem.kind (Cll.g x (0 + s))) (3 : Int)) (cP (bne (Mem.kind (Cll.g x (0 + s))) (4 : Int)) (rshapeVC_3 x) (rshapeVC_1 x s)) (rshapeVC_1 x s)) (rshapeVC_1 x s)))) (rshapeVC_2 x)))) ∧
 True)))) (rshapeVC_3 x)))))))))
theorem rshapeVC_ok (x : Cll) : rshapeVC x = rshapeVC_wp x := by kernel_rfl
def goodVC_wp (x : Cll) : Prop := wpF Try.prog [(53, ctrT shapeC), (54, ctrT longC)] tt noAn 200 5 17 (goodC.args x) (hO goodC.k (goodC.os x)) (fun v h' => endsP goodC.k x v h' goodC.outs)
def goodVC (x : Cll) : Prop :=
  (∃ (x_1 : Cll), ((x_1.gn < 1099511627776) ∧ ((((x_1.kind = x.kind) ∧ ((x_1.key = x.key) ∧ ((x_1.value = x.value) ∧ ((x_1.to = x.to) ∧ (((0 = 0) ∧ (x_1.gn = x.gn)) ∧ True))))) ∧ True) ∧ ((((x_1.gn = x.gn) ∧ (∀ (q : Nat), ((q < x_1.gn) → ([(Value.int IntKind.i64 (Mem.kind (Cll.g x_1 q))), (Value.string (Mem.key (Cll.g x_1 q))), (Value.string (Mem.value (Cll.g x_1 q))), (Value.string (Mem.to (Cll.g x_1 q))), (Value.slice (Mem.gp (Cll.g x_1 q)) (Mem.gn (Cll.g x_1 q)) (Mem.gc (Cll.g x_1 q)))] = [(Value.int IntKind.i64 (Mem.kind (Cll.g x q))), (Value.string (Mem.key (Cll.g x q))), (Value.string (Mem.value (Cll.g x q))), (Value.string (Mem.to (Cll.g x q))), (Value.slice (Mem.gp (Cll.g x q)) (Mem.gn (Cll.g x q)) (Mem.gc (Cll.g x q)))])))) ∧ True) ∧ (∀ (y : Unit), (True → (cP (@Bool.not (shapeM x_1)) (∃ (y_1 : Unit), (True ∧ (((goodM x) = (1 : Int)) ∧ ((((rowG x) = (rowG x)) ∧ (Bool.true = Bool.true)) ∧ True)))) (∃ (x_2 : Cll), ((Hd x_2.small) ∧ ((((x_2.kind = x.kind) ∧ ((x_2.key = x.key) ∧ ((x_2.value = x.value) ∧ ((x_2.to = x.to) ∧ (((0 = 0) ∧ (x_2.gn = x.gn)) ∧ True))))) ∧ True) ∧ ((((x_2.gn = x.gn) ∧ (∀ (q : Nat), ((q < x_2.gn) → ([(Value.int IntKind.i64 (Mem.kind (Cll.g x_2 q))), (Value.string (Mem.key (Cll.g x_2 q))), (Value.string (Mem.value (Cll.g x_2 q))), (Value.string (Mem.to (Cll.g x_2 q))), (Value.slice (Mem.gp (Cll.g x_2 q)) (Mem.gn (Cll.g x_2 q)) (Mem.gc (Cll.g x_2 q)))] = [(Value.int IntKind.i64 (Mem.kind (Cll.g x q))), (Value.string (Mem.key (Cll.g x q))), (Value.string (Mem.value (Cll.g x q))), (Value.string (Mem.to (Cll.g x q))), (Value.slice (Mem.gp (Cll.g x q)) (Mem.gn (Cll.g x q)) (Mem.gc (Cll.g x q)))])))) ∧
 True) ∧ (∀ (y_1 : Unit), (True → (cP (longM x_2) (∃ (y_2 : Unit), (True ∧ (((goodM x) = (5 : Int)) ∧ ((((rowG x) = (rowG x)) ∧ (Bool.true = Bool.true)) ∧ True)))) (∃ (y_2 : Unit), (True ∧ (((goodM x) = (0 : Int)) ∧ ((((rowG x) = (rowG x)) ∧ (Bool.true = Bool.true)) ∧ True))))))))))))))))))
theorem goodVC_ok (x : Cll) : goodVC x = goodVC_wp x := by kernel_rfl
def rgoodVC_wp (x : Cll) : Prop := wpF Try.prog [(72, ctrT rshapeC), (73, ctrT longC)] tt noAn 200 5 44 (goodC.args x) (hO goodC.k (goodC.os x)) (fun v h' => endsP goodC.k x v h' goodC.outs)
def rgoodVC (x : Cll) : Prop :=
  (∃ (x_1 : Cll), ((Hd x_1.small) ∧ ((((x_1.kind = x.kind) ∧ ((x_1.key = x.key) ∧ ((x_1.value = x.value) ∧ ((x_1.to = x.to) ∧ (((0 = 0) ∧ (x_1.gn = x.gn)) ∧ True))))) ∧ ((Bool.false = Bool.false) ∧ True)) ∧ ((((x_1.gn = x.gn) ∧ (∀ (q : Nat), ((q < x_1.gn) → ([(Value.int IntKind.i64 (Mem.kind (Cll.g x_1 q))), (Value.string (Mem.key (Cll.g x_1 q))), (Value.string (Mem.value (Cll.g x_1 q))), (Value.string (Mem.to (Cll.g x_1 q))), (Value.slice (Mem.gp (Cll.g x_1 q)) (Mem.gn (Cll.g x_1 q)) (Mem.gc (Cll.g x_1 q)))] = [(Value.int IntKind.i64 (Mem.kind (Cll.g x q))), (Value.string (Mem.key (Cll.g x q))), (Value.string (Mem.value (Cll.g x q))), (Value.string (Mem.to (Cll.g x q))), (Value.slice (Mem.gp (Cll.g x q)) (Mem.gn (Cll.g x q)) (Mem.gc (Cll.g x q)))])))) ∧ True) ∧ (∀ (y : Unit), (True → (cP (BEq.beq (@b2i (@Bool.not (shapeM x_1))) (0 : Int)) (∃ (x_2 : Cll), ((Hd x_2.small) ∧ ((((x_2.kind = x.kind) ∧ ((x_2.key = x.key) ∧ ((x_2.value = x.value) ∧ ((x_2.to = x.to) ∧ (((0 = 0) ∧ (x_2.gn = x.gn)) ∧ True))))) ∧ True) ∧ ((((x_2.gn = x.gn) ∧ (∀ (q : Nat), ((q < x_2.gn) → ([(Value.int IntKind.i64 (Mem.kind (Cll.g x_2 q))), (Value.string (Mem.key (Cll.g x_2 q))), (Value.string (Mem.value (Cll.g x_2 q))), (Value.string (Mem.to (Cll.g x_2 q))), (Value.slice (Mem.gp (Cll.g x_2 q)) (Mem.gn (Cll.g x_2 q)) (Mem.gc (Cll.g x_2 q)))] = [(Value.int IntKind.i64 (Mem.kind (Cll.g x q))), (Value.string (Mem.key (Cll.g x q))), (Value.string (Mem.value (Cll.g x q))), (Value.string (Mem.to (Cll.g x q))), (Value.slice (Mem.gp (Cll.g x q)) (Mem.gn (Cll.g x q)) (Mem.gc (Cll.g x q)))])))) ∧
 True) ∧ (∀ (y_1 : Unit), (True → (cP (longM x_2) (∃ (y_2 : Unit), (True ∧ (((goodM x) = (5 : Int)) ∧ ((((rowG x) = (rowG x)) ∧ (Bool.true = Bool.true)) ∧ True)))) (∃ (y_2 : Unit), (True ∧ (((goodM x) = (@b2i (@Bool.not (shapeM x_1)))) ∧ ((((rowG x) = (rowG x)) ∧ (Bool.true = Bool.true)) ∧ True))))))))))) (∃ (y_1 : Unit), (True ∧ (((goodM x) = (@b2i (@Bool.not (shapeM x_1)))) ∧ ((((rowG x) = (rowG x)) ∧ (Bool.true = Bool.true)) ∧ True)))))))))))
theorem rgoodVC_ok (x : Cll) : rgoodVC x = rgoodVC_wp x := by kernel_rfl
def weightVC_wp (x : Cll) : Prop := wpF Try.prog [] tt (anWeight x) 200 5 10 (weightC.args x) (hO weightC.k (weightC.os x)) (fun v h' => endsP weightC.k x v h' weightC.outs)
def weightVC (x : Cll) : Prop :=
  (cP (decide (@GT.gt Int @Int.instLTInt (((@ByteArray.size x.key) : Nat) : Int) (1500 : Int))) ((I64 (1501 : Int)) ∧ (∃ (y : Int), ((Hd ((y ≤ (1500 : Int)) → x.small)) ∧ ((y = (1501 : Int)) ∧ ((((rowG x) = (rowG x)) ∧ (Bool.true = Bool.true)) ∧ True))))) (cP (decide (@GT.gt Int @Int.instLTInt (((@ByteArray.size x.value) : Nat) : Int) (1500 : Int))) ((I64 (1501 : Int)) ∧ (∃ (y : Int), ((Hd ((y ≤ (1500 : Int)) → x.small)) ∧ ((y = (1501 : Int)) ∧ ((((rowG x) = (rowG x)) ∧ (Bool.true = Bool.true)) ∧ True))))) (cP (decide (@GT.gt Int @Int.instLTInt (((@ByteArray.size x.to) : Nat) : Int) (1500 : Int))) ((I64 (1501 : Int)) ∧ (∃ (y : Int), ((Hd ((y ≤ (1500 : Int)) → x.small)) ∧ ((y = (1501 : Int)) ∧ ((((rowG x) = (rowG x)) ∧ (Bool.true = Bool.true)) ∧ True))))) (cP (decide (@GT.gt Int @Int.instLTInt ((x.gn : Nat) : Int) (1500 : Int))) ((I64 (1501 : Int)) ∧ (∃ (y : Int), ((Hd ((y ≤ (1500 : Int)) → x.small)) ∧ ((y = (1501 : Int)) ∧ ((((rowG x) = (rowG x)) ∧ (Bool.true = Bool.true)) ∧ True))))) ((I64 ((((@ByteArray.size x.key) : Nat) : Int) + (((@ByteArray.size x.value) : Nat) : Int))) ∧ ((I64 (((((@ByteArray.size x.key) : Nat) : Int) + (((@ByteArray.size x.value) : Nat) : Int)) + (((@ByteArray.size x.to) : Nat) : Int))) ∧ ((∃ (s : (@Prod Nat Int)), (((s.1 ≤ x.gn) ∧ (Hd (invW x s))) ∧ (True ∧ (((((s.1 : Nat) : Int) = (0 : Int)) ∧ ((s.2 = (((((@ByteArray.size x.key) : Nat) : Int) + (((@ByteArray.size x.value) : Nat) : Int)) + (((@ByteArray.size x.to) : Nat) : Int))) ∧ True)) ∧ (((x.kind = x.kind) ∧
 ((x.key = x.key) ∧ ((x.value = x.value) ∧ ((x.to = x.to) ∧ (((0 = 0) ∧ (x.gn = x.gn)) ∧ True))))) ∧ ((((rowG x) = (rowG x)) ∧ (Bool.true = Bool.true)) ∧ True)))))) ∧ ((∀ (s : (@Prod Nat Int)), (((s.1 ≤ x.gn) ∧ (Hd (invW x s))) → (cP (decide (((s.1 : Nat) : Int) < ((x.gn : Nat) : Int))) (cP (decide (s.2 ≤ (1500 : Int))) ((((0 : Int) ≤ ((s.1 : Nat) : Int)) ∧ (((s.1 : Nat) : Int) < ((x.gn : Nat) : Int))) ∧ (((0 + s.1) < x.gn) ∧ (cP (decide (@GT.gt Int @Int.instLTInt (((@ByteArray.size (Mem.key (Cll.g x (0 + s.1)))) : Nat) : Int) (1500 : Int))) ((I64 (1501 : Int)) ∧ (∃ (y : Int), ((Hd ((y ≤ (1500 : Int)) → x.small)) ∧ ((y = (1501 : Int)) ∧ ((((rowG x) = (rowG x)) ∧ (Bool.true = Bool.true)) ∧ True))))) (cP (decide (@GT.gt Int @Int.instLTInt (((@ByteArray.size (Mem.value (Cll.g x (0 + s.1)))) : Nat) : Int) (1500 : Int))) ((I64 (1501 : Int)) ∧ (∃ (y : Int), ((Hd ((y ≤ (1500 : Int)) → x.small)) ∧ ((y = (1501 : Int)) ∧ ((((rowG x) = (rowG x)) ∧ (Bool.true = Bool.true)) ∧ True))))) (cP (decide (@GT.gt Int @Int.instLTInt (((@ByteArray.size (Mem.to (Cll.g x (0 + s.1)))) : Nat) : Int) (1500 : Int))) ((I64 (1501 : Int)) ∧ (∃ (y : Int), ((Hd ((y ≤ (1500 : Int)) → x.small)) ∧ ((y = (1501 : Int)) ∧ ((((rowG x) = (rowG x)) ∧ (Bool.true = Bool.true)) ∧ True))))) (cP (decide (@GT.gt Int @Int.instLTInt (((Mem.gn (Cll.g x (0 + s.1))) : Nat) : Int) (0 : Int))) ((I64 (1501 : Int)) ∧ (∃ (y : Int), ((Hd ((y ≤ (1500 : Int)) → x.small)) ∧ ((y = (1501 : Int)) ∧ ((((rowG x) = (rowG x)) ∧ (Bool.true = Bool.true)) ∧
 True))))) ((I64 (s.2 + (((@ByteArray.size (Mem.key (Cll.g x (0 + s.1)))) : Nat) : Int))) ∧ ((I64 ((s.2 + (((@ByteArray.size (Mem.key (Cll.g x (0 + s.1)))) : Nat) : Int)) + (((@ByteArray.size (Mem.value (Cll.g x (0 + s.1)))) : Nat) : Int))) ∧ ((I64 (((s.2 + (((@ByteArray.size (Mem.key (Cll.g x (0 + s.1)))) : Nat) : Int)) + (((@ByteArray.size (Mem.value (Cll.g x (0 + s.1)))) : Nat) : Int)) + (((@ByteArray.size (Mem.to (Cll.g x (0 + s.1)))) : Nat) : Int))) ∧ ((I64 (((s.1 : Nat) : Int) + (1 : Int))) ∧ (∃ (s_1 : (@Prod Nat Int)), (((s_1.1 ≤ x.gn) ∧ (Hd (invW x s_1))) ∧ (((x.gn - s_1.1) < (x.gn - s.1)) ∧ (((((s_1.1 : Nat) : Int) = (((s.1 : Nat) : Int) + (1 : Int))) ∧ ((s_1.2 = (((s.2 + (((@ByteArray.size (Mem.key (Cll.g x (0 + s.1)))) : Nat) : Int)) + (((@ByteArray.size (Mem.value (Cll.g x (0 + s.1)))) : Nat) : Int)) + (((@ByteArray.size (Mem.to (Cll.g x (0 + s.1)))) : Nat) : Int))) ∧ True)) ∧ (((x.kind = x.kind) ∧ ((x.key = x.key) ∧ ((x.value = x.value) ∧ ((x.to = x.to) ∧ (((0 = 0) ∧ (x.gn = x.gn)) ∧ True))))) ∧ ((((rowG x) = (rowG x)) ∧ (Bool.true = Bool.true)) ∧ True)))))))))))))))) ((I64 (1501 : Int)) ∧ (∃ (y : Int), ((Hd ((y ≤ (1500 : Int)) → x.small)) ∧ ((y = (imin s.2 (1501 : Int))) ∧ ((((rowG x) = (rowG x)) ∧ (Bool.true = Bool.true)) ∧ True)))))) ((I64 (1501 : Int)) ∧ (∃ (y : Int), ((Hd ((y ≤ (1500 : Int)) → x.small)) ∧ ((y = (imin s.2 (1501 : Int))) ∧ ((((rowG x) = (rowG x)) ∧ (Bool.true = Bool.true)) ∧ True)))))))) ∧ True))))))))
theorem weightVC_ok (x : Cll) : weightVC x = weightVC_wp x := by kernel_rfl
def greatVC_wp (x : Shf) : Prop := wpF Try.prog [] tt (anGreat x) 200 5 9 (greatC.args x) (hO greatC.k (greatC.os x)) (fun v h' => endsP greatC.k x v h' greatC.outs)
def greatVC (x : Shf) : Prop :=
  (cP (decide (@GT.gt Int @Int.instLTInt ((x.n : Nat) : Int) (40 : Int))) (∃ (y : Bool), ((Hd ((y = Bool.false) → x.small)) ∧ ((y = Bool.true) ∧ ((((rowP x) = (rowP x)) ∧ (Bool.true = Bool.true)) ∧ ((((@rowQ x) = (@rowQ x)) ∧ (Bool.true = Bool.true)) ∧ True))))) (cP (decide (@GT.gt Int @Int.instLTInt ((x.m : Nat) : Int) (40 : Int))) (∃ (y : Bool), ((Hd ((y = Bool.false) → x.small)) ∧ ((y = Bool.true) ∧ ((((rowP x) = (rowP x)) ∧ (Bool.true = Bool.true)) ∧ ((((@rowQ x) = (@rowQ x)) ∧ (Bool.true = Bool.true)) ∧ True))))) ((∃ (s : Nat), (((s ≤ x.n) ∧ (Hd (@invG x s))) ∧ (True ∧ (((((s : Nat) : Int) = (0 : Int)) ∧ True) ∧ ((((0 = 0) ∧ (x.n = x.n)) ∧ (((0 = 0) ∧ (x.m = x.m)) ∧ True)) ∧ ((((@rowQ x) = (@rowQ x)) ∧ (Bool.true = Bool.true)) ∧ ((((rowP x) = (rowP x)) ∧ (Bool.true = Bool.true)) ∧ True))))))) ∧ ((∀ (s : Nat), (((s ≤ x.n) ∧ (Hd (@invG x s))) → (cP (decide (((s : Nat) : Int) < ((x.n : Nat) : Int))) ((((0 : Int) ≤ ((s : Nat) : Int)) ∧ (((s : Nat) : Int) < ((x.n : Nat) : Int))) ∧ (((0 + s) < x.n) ∧ (cP (decide (@GT.gt Int @Int.instLTInt (((@ByteArray.size (@Shf.pk x (0 + s))) : Nat) : Int) (600 : Int))) (∃ (y : Bool), ((Hd ((y = Bool.false) → x.small)) ∧ ((y = Bool.true) ∧ ((((rowP x) = (rowP x)) ∧ (Bool.true = Bool.true)) ∧ ((((@rowQ x) = (@rowQ x)) ∧ (Bool.true = Bool.true)) ∧ True))))) ((((0 : Int) ≤ ((s : Nat) : Int)) ∧ (((s : Nat) : Int) < ((x.n : Nat) : Int))) ∧ (((0 + s) < x.n) ∧ (cP (decide (@GT.gt Int @Int.instLTInt (((@ByteArray.size (@Shf.pv x (0 + s))) : Nat) : Int) (600 : Int))) (∃ (y : Bool), ((Hd ((y = Bool.false) → x.small)) ∧
 ((y = Bool.true) ∧ ((((rowP x) = (rowP x)) ∧ (Bool.true = Bool.true)) ∧ ((((@rowQ x) = (@rowQ x)) ∧ (Bool.true = Bool.true)) ∧ True))))) ((I64 (((s : Nat) : Int) + (1 : Int))) ∧ (∃ (s_1 : Nat), (((s_1 ≤ x.n) ∧ (Hd (@invG x s_1))) ∧ (((x.n - s_1) < (x.n - s)) ∧ (((((s_1 : Nat) : Int) = (((s : Nat) : Int) + (1 : Int))) ∧ True) ∧ ((((0 = 0) ∧ (x.n = x.n)) ∧ (((0 = 0) ∧ (x.m = x.m)) ∧ True)) ∧ ((((@rowQ x) = (@rowQ x)) ∧ (Bool.true = Bool.true)) ∧ ((((rowP x) = (rowP x)) ∧ (Bool.true = Bool.true)) ∧ True)))))))))))))) ((∃ (s_1 : Nat), (((s_1 ≤ x.m) ∧ (Hd (@invQ x s_1))) ∧ (True ∧ (((((s_1 : Nat) : Int) = (0 : Int)) ∧ True) ∧ ((((0 = 0) ∧ (x.n = x.n)) ∧ (((0 = 0) ∧ (x.m = x.m)) ∧ True)) ∧ ((((@rowQ x) = (@rowQ x)) ∧ (Bool.true = Bool.true)) ∧ ((((rowP x) = (rowP x)) ∧ (Bool.true = Bool.true)) ∧ True))))))) ∧ ((∀ (s_1 : Nat), (((s_1 ≤ x.m) ∧ (Hd (@invQ x s_1))) → (cP (decide (((s_1 : Nat) : Int) < ((x.m : Nat) : Int))) ((((0 : Int) ≤ ((s_1 : Nat) : Int)) ∧ (((s_1 : Nat) : Int) < ((x.m : Nat) : Int))) ∧ (((0 + s_1) < x.m) ∧ (cP (decide (@GT.gt Int @Int.instLTInt (((@ByteArray.size (@Shf.qv x (0 + s_1))) : Nat) : Int) (600 : Int))) (∃ (y : Bool), ((Hd ((y = Bool.false) → x.small)) ∧ ((y = Bool.true) ∧ ((((rowP x) = (rowP x)) ∧ (Bool.true = Bool.true)) ∧ ((((@rowQ x) = (@rowQ x)) ∧ (Bool.true = Bool.true)) ∧ True))))) ((I64 (((s_1 : Nat) : Int) + (1 : Int))) ∧ (∃ (s_2 : Nat), (((s_2 ≤ x.m) ∧ (Hd (@invQ x s_2))) ∧ (((x.m - s_2) < (x.m - s_1)) ∧ (((((s_2 : Nat) : Int) = (((s_1 : Nat) : Int) + (1 : Int))) ∧
 True) ∧ ((((0 = 0) ∧ (x.n = x.n)) ∧ (((0 = 0) ∧ (x.m = x.m)) ∧ True)) ∧ ((((@rowQ x) = (@rowQ x)) ∧ (Bool.true = Bool.true)) ∧ ((((rowP x) = (rowP x)) ∧ (Bool.true = Bool.true)) ∧ True))))))))))) (∃ (y : Bool), ((Hd ((y = Bool.false) → x.small)) ∧ ((y = Bool.false) ∧ ((((rowP x) = (rowP x)) ∧ (Bool.true = Bool.true)) ∧ ((((@rowQ x) = (@rowQ x)) ∧ (Bool.true = Bool.true)) ∧ True)))))))) ∧ True))))) ∧ True))))
theorem greatVC_ok (x : Shf) : greatVC x = greatVC_wp x := by kernel_rfl
end Go.Proofs.Ytjndgegfonhhfaa
end
section
/- Good calls: what is asked is so. -/
namespace Go.Proofs.Ytjndgegfonhhfaa
open Go SE
theorem emp_eq (a : BA) : eqB a (ByteArray.mk #[]) = emp a := rfl
theorem keyedVC_true (x : Int) : keyedVC x := by
  unfold keyedVC
  simp only [hd_iff, and_true, true_and, Nat.zero_add, Nat.add_zero, unit_ex, unit_all, true_implies, implies_true, Int.toNat_natCast, eq_self, and_self, cP_iff, beq_iff_eq, beq_eq_false_iff_ne, keyedM]
  refine ⟨fun h => by simp [h], fun h => ⟨fun h2 => by simp [h2], fun h2 => ?_⟩⟩
  simp only [h, h2, decide_false, Bool.false_or]; by_cases h3 : x = 3 <;> simp [h3]
theorem groupedVC_true (x : Int) : groupedVC x := by
  unfold groupedVC
  simp only [hd_iff, and_true, true_and, Nat.zero_add, Nat.add_zero, unit_ex, unit_all, true_implies, implies_true, Int.toNat_natCast, eq_self, and_self, cP_iff, beq_iff_eq, beq_eq_false_iff_ne, groupedM]
  refine ⟨fun h => by simp [h], fun h => ⟨fun h2 => by simp [h2], fun h2 => ?_⟩⟩
  simp only [h, h2, decide_false, Bool.false_or]; by_cases h3 : x = 4 <;> simp [h3]
theorem keyed_ok : CtrOk Try.prog 80 keyedC := det_end tt_ok mixed TblOk.nil (fun _ => noAn) 200 5 (fun _ => rfl) (fun _ => rfl) fun x _ => Eq.mp (keyedVC_ok x) (keyedVC_true x)
theorem grouped_ok : CtrOk Try.prog 81 groupedC := det_end tt_ok mixed TblOk.nil (fun _ => noAn) 200 5 (fun _ => rfl) (fun _ => rfl) fun x _ => Eq.mp (groupedVC_ok x) (groupedVC_true x)
theorem tblK_ok : TblOk Try.prog tblK := .cons (ctrT_ok keyed_ok) (.cons (ctrT_ok grouped_ok) .nil)
theorem shape_kind {c : Cll} (h : ¬ (1 ≤ c.kind ∧ c.kind ≤ 8)) : shapeM c = false := by simp [shapeM, h]
theorem shape_key {c : Cll} (h : keyedM c.kind = true) (he : emp c.key = true) : shapeM c = false := by simp [shapeM, h, he]
theorem shape_plain {c : Cll} (h : 1 ≤ c.kind ∧ c.kind ≤ 8) (he : (keyedM c.kind && emp c.key) = false) (h7 : c.kind ≠ 7) : shapeM c = true := by simp [shapeM, h, he, h7]
theorem shape_n {c : Cll} (h : c.kind = 7) (hn : ¬ (1 ≤ c.gn ∧ c.gn ≤ 3)) : shapeM c = false := by
  simp only [shapeM, h, ne_eq, not_true_eq_false, decide_false, Bool.false_or, Bool.and_eq_false_iff, decide_eq_false_iff_not]
  exact .inr fun hh => hn ⟨hh.1, hh.2.1⟩
theorem shape_bad {c : Cll} (h : c.kind = 7) {i : Nat} (hi : i < c.gn) (hb : memOk c.g i = false) : shapeM c = false := by
  simp only [shapeM, h, ne_eq, not_true_eq_false, decide_false, Bool.false_or, Bool.and_eq_false_iff, decide_eq_false_iff_not]
  refine .inr fun hh => ?_
  rw [hh.2.2 i hi] at hb; cases hb
theorem shape_group {c : Cll} (h : c.kind = 7) (hn : 1 ≤ c.gn ∧ c.gn ≤ 3) (hm : invMs c c.gn) : shapeM c = true := by
  have : keyedM 7 = false := rfl
  simp only [shapeM, h, this, hn.1, hn.2, ne_eq, not_true_eq_false, decide_false, Bool.false_or, true_and, Bool.false_and, Bool.not_false, Bool.and_true, Bool.and_eq_true, decide_eq_true_eq]
  exact ⟨by omega, hm⟩
theorem mem_bad {c : Cll} {i : Nat} (h : groupedM (c.g i).kind = false ∨ (keyedM (c.g i).kind && emp (c.g i).key) = true ∨ ∃ j, j < i ∧ clash c i j = true) : memOk c.g i = false := by
  unfold memOk
  rcases h with h | h | ⟨j, hj, h⟩
  · rw [h]; rfl
  · rw [h]; simp
  · rw [Bool.and_eq_false_iff]
    refine .inr (decide_eq_false fun hh => ?_)
    have := hh j hj
    unfold clash at h
    rw [h] at this; cases this
theorem mem_good {c : Cll} {i : Nat} (h1 : groupedM (c.g i).kind = true) (h2 : (keyedM (c.g i).kind && emp (c.g i).key) = false) (h3 : invJ c i i) : memOk c.g i = true := by
  unfold memOk
  simp only [h1, h2, Bool.not_false, Bool.and_true, Bool.true_and, decide_eq_true_eq]
  exact h3
theorem invMs_next {c : Cll} {i : Nat} (h : invMs c i) (hm : memOk c.g i = true) : invMs c (i + 1) := fun j hj => by
  rcases Nat.lt_or_ge j i with h' | h'
  · exact h j h'
  · have : j = i := by omega
    subst this; exact hm
theorem invJ_next {c : Cll} {i j : Nat} (h : invJ c i j) (hm : clash c i j = false) : invJ c i (j + 1) := fun q hq => by
  rcases Nat.lt_or_ge q j with h' | h'
  · exact h q h'
  · have : q = j := by omega
    subst this; exact hm
theorem shapeVC_true (c : Cll) (hc : c.gn < 1099511627776) : shapeVC c := by
  unfold shapeVC
  simp only [shapeVC_11, shapeVC_7, shapeVC_9, shapeVC_10, shapeVC_1, shapeVC_2, shapeVC_3, shapeVC_4, shapeVC_5, shapeVC_6, shapeVC_12, shapeVC_8]
  simp only [hd_iff, and_true, true_and, Nat.zero_add, Nat.add_zero, unit_ex, unit_all, true_implies, implies_true, Int.toNat_natCast, eq_self, and_self, eL, emp_eq]
  refine cP_intro (fun h1 => shape_kind (by have := of_decide_eq_true h1; omega)) (fun h1 => cP_intro (fun h2 => shape_kind (by have := of_decide_eq_true h2; omega)) (fun h2 => ⟨_, rfl, ?_⟩))
  have h1 := of_decide_eq_false h1
  have h2 := of_decide_eq_false h2
  refine cP_intro (fun hk => cP_intro (fun he => shape_key hk he) (fun he => ?_)) (fun hk => ?_)
  all_goals
    refine cP_intro (fun h7 => shape_plain (by omega) (by rw [hk]; first | rfl | (rw [he]; rfl)) (by simpa using h7)) (fun h7 => ?_)
    have h7 : c.kind = 7 := by simpa using h7
    first | (rw [h7] at hk; cases hk; done) | skip
  refine cP_intro (fun hn => shape_n h7 (by have := of_decide_eq_true hn; omega)) (fun hn => cP_intro (fun hn2 => shape_n h7 (by have := of_decide_eq_true hn2; omega)) (fun hn2 => ?_))
  have hn := of_decide_eq_false hn
  have hn2 := of_decide_eq_false hn2
  refine ⟨⟨0, ⟨by omega, fun j hj => by omega⟩, rfl⟩, fun i ⟨hi, hms⟩ => cP_intro (fun hb => ?_) (fun hb => ?_)⟩
  · have hb := of_decide_eq_true hb
    have hl : i < c.gn := by omega
    refine ⟨⟨by omega, hb⟩, hl, _, rfl, cP_intro (fun hg => shape_bad h7 hl (mem_bad (.inl (by simpa using hg)))) (fun hg => ⟨_, rfl, ?_⟩)⟩
    have hg : groupedM (c.g i).kind = true := by simpa using hg
    refine cP_intro (fun hk2 => cP_intro (fun he => shape_bad h7 hl (mem_bad (.inr (.inl (by rw [hk2, he]; rfl))))) (fun he => ?_)) (fun hk2 => ?_)
    all_goals
      have hke : (keyedM (c.g i).kind && emp (c.g i).key) = false := by rw [hk2]; first | rfl | (rw [he]; rfl)
      refine ⟨by omega, by omega, ⟨0, ⟨by omega, fun j hj => by omega⟩, rfl⟩, fun j ⟨hj, hjs⟩ => ?_⟩
      refine cP_intro (fun hb => ?_) (fun hb => ?_)
      · have hb := of_decide_eq_true hb
        have next : clash c i j = false → I64 ((j : Int) + 1) ∧ ∃ q : Nat, (q ≤ i ∧ invJ c i q) ∧ i - q < i - j ∧ (q : Int) = (j : Int) + 1 := fun h => ⟨by unfold I64; omega, j + 1, ⟨by omega, invJ_next hjs h⟩, by omega, rfl⟩
        refine ⟨⟨by omega, hb⟩, by omega, _, rfl, cP_intro (fun ha => ⟨_, rfl, cP_intro (fun hb2 => cP_intro (fun hq => ?_) (fun hq => ?_)) (fun hb2 => ?_)⟩) (fun ha => ?_)⟩
        · exact shape_bad h7 hl (mem_bad (.inr (.inr ⟨j, by omega, by simp [clash, ha, hb2, hq]⟩)))
        · exact next (by unfold clash; rw [hq]; simp)
        · exact next (by unfold clash; rw [hb2]; simp)
        · exact next (by unfold clash; rw [ha]; simp)
      · have hb := of_decide_eq_false hb
        have : j = i := by omega
        subst this
        exact ⟨by unfold I64; omega, j + 1, ⟨by omega, invMs_next hms (mem_good hg hke hjs)⟩, by omega, rfl⟩
  · have : i = c.gn := by have := of_decide_eq_false hb; omega
    subst this
    exact shape_group h7 (by omega) hms
theorem gt16 {a b : Int} : decide (a > b) = decide (b < a) := rfl
theorem longMemVC_true (x : Mem) : longMemVC x := by
  unfold longMemVC
  simp only [hd_iff, and_true, true_and, Nat.zero_add, Nat.add_zero, unit_ex, unit_all, true_implies, implies_true, Int.toNat_natCast, eq_self, and_self, cP_iff, beq_iff_eq, beq_eq_false_iff_ne, gt16, longK]
  refine ⟨fun h => by simp [h], fun h1 => ⟨fun h => by simp [h], fun h3 => ⟨fun h => ?_, fun h2 => ⟨fun h => by simp [h], fun h4 => ⟨fun h => ?_, fun h6 => ⟨fun h => by simp [h], fun h7 => by simp [h1, h2, h3, h4, h6]⟩⟩⟩⟩⟩⟩
  · refine ⟨fun hk => ?_, fun hk => ?_⟩ <;> rw [h, hk] <;> rfl
  · refine ⟨fun hk => ?_, fun hk => ?_⟩ <;> rw [h, hk] <;> rfl
theorem long_plain {c : Cll} (h : c.kind ≠ 7) : longM c = longK c.kind c.key c.value c.to := by simp [longM, h]
theorem longK7 (a b d : BA) : longK 7 a b d = false := rfl
theorem long_some {c : Cll} (h : c.kind = 7) {i : Nat} (hi : i < c.gn) (hl : longK (c.g i).kind (c.g i).key (c.g i).value (c.g i).to = true) : longM c = true := by
  simp only [longM, h, longK7, Bool.false_or, decide_true, Bool.true_and, decide_eq_true_eq]
  exact ⟨i, hi, hl⟩
theorem long_none {c : Cll} (h : c.kind = 7) (hl : invLong c c.gn) : longM c = false := by
  simp only [longM, h, longK7, Bool.false_or, decide_true, Bool.true_and, decide_eq_false_iff_not]
  rintro ⟨i, hi, h'⟩
  rw [hl i hi] at h'; cases h'
theorem invLong_next {c : Cll} {i : Nat} (h : invLong c i) (hm : longK (c.g i).kind (c.g i).key (c.g i).value (c.g i).to = false) : invLong c (i + 1) := fun j hj => by
  rcases Nat.lt_or_ge j i with h' | h'
  · exact h j h'
  · have : j = i := by omega
    subst this; exact hm
theorem longVC_true (c : Cll) (hc : c.small) : longVC c := by
  unfold longVC
  simp only [hd_iff, and_true, true_and, Nat.zero_add, Nat.add_zero, unit_ex, unit_all, true_implies, implies_true, Int.toNat_natCast, eq_self, and_self]
  have hp := fun h => long_plain (c := c) h
  have sm := fun i hi => (hc.2.2.2.2 i hi).2.2.2
  have hgn := hc.2.2.2.1
  refine cP_intro (fun h => ?_) (fun h1 => cP_intro (fun h => ?_) (fun h3 => cP_intro (fun h => ?_) (fun h2 => cP_intro (fun h => ?_) (fun h4 => cP_intro (fun h => ?_) (fun h6 => cP_intro (fun h => ?_) (fun h7 => ?_))))))
  all_goals simp only [beq_iff_eq, beq_eq_false_iff_ne] at *
  · rw [hp (by omega), h]; rfl
  · rw [hp (by omega), h]; rfl
  · rw [hp (by omega), h]
    refine cP_intro (fun hk => ?_) (fun hk => ?_) <;> simp only [gt16] at hk
    · have e : ∀ v t : BA, longK 2 c.key v t = true := fun v t => by unfold longK; rw [hk]; rfl
      exact e _ _
    · have e : ∀ v t : BA, longK 2 c.key v t = decide ((400 : Int) < (v.size : Nat)) := fun v t => by unfold longK; rw [hk]; rfl
      exact e _ _
  · rw [hp (by omega), h]; rfl
  · rw [hp (by omega), h]
    refine cP_intro (fun hk => ?_) (fun hk => ?_) <;> simp only [gt16] at hk
    · have e : ∀ v t : BA, longK 6 c.key v t = true := fun v t => by unfold longK; rw [hk]; rfl
      exact e _ _
    · have e : ∀ v t : BA, longK 6 c.key v t = decide ((16 : Int) < (t.size : Nat)) := fun v t => by unfold longK; rw [hk]; rfl
      exact e _ _
  · refine ⟨⟨0, ⟨by omega, fun j hj => by omega⟩, rfl⟩, fun i ⟨hi, hall⟩ => cP_intro (fun hb => ?_) (fun hb => ?_)⟩
    · have hb := of_decide_eq_true hb
      have hl : i < c.gn := by omega
      refine ⟨⟨by omega, hb⟩, hl, ⟨(c.g i).kind, (c.g i).key, (c.g i).value, (c.g i).to, (c.g i).gp, 0, (c.g i).gc⟩, ⟨rfl, rfl, rfl, rfl, by rw [sm i hl]⟩, cP_intro (fun hx => ?_) (fun hx => ?_)⟩
      · rw [long_some h hl hx]; exact (decide_eq_true (by omega)).symm
      · exact ⟨by unfold I64; omega, i + 1, ⟨by omega, invLong_next hall hx⟩, by omega, rfl⟩
    · have : i = c.gn := by have := of_decide_eq_false hb; omega
      subst this; exact long_none h hall
  · rw [hp (by omega)]; simp [longK, *]
theorem weightVC_true (c : Cll) : weightVC c := by
  unfold weightVC
  have big : ∃ y : Int, (y ≤ 1500 → c.small) ∧ y = 1501 := ⟨1501, fun h => by omega, rfl⟩
  have i1 : I64 1501 := by unfold I64; omega
  simp only [hd_iff, and_true, true_and, Nat.zero_add, Nat.add_zero, unit_ex, unit_all, true_implies, implies_true, Int.toNat_natCast, eq_self, and_self, i1, big]
  refine cP_intro (fun _ => trivial) (fun h1 => cP_intro (fun _ => trivial) (fun h2 => cP_intro (fun _ => trivial) (fun h3 => cP_intro (fun _ => trivial) (fun h4 => ?_))))
  have h1 := of_decide_eq_false h1
  have h2 := of_decide_eq_false h2
  have h3 := of_decide_eq_false h3
  have h4 := of_decide_eq_false h4
  have hm : ∀ z : Int, imin z 1501 ≤ 1500 → z ≤ 1500 := fun z h => by unfold imin at h; grind
  refine ⟨by unfold I64; omega, by unfold I64; omega, ⟨(0, _), ⟨by omega, by simp; omega, by simp; omega, fun k hk => by simp at hk⟩, rfl, rfl⟩, fun ⟨i, z⟩ ⟨hi, h0, hz, hall⟩ => cP_intro (fun hb => ?_) (fun hb => ?_)⟩
  · dsimp only at *
    have hb := of_decide_eq_true hb
    refine cP_intro (fun hw => ?_) (fun hw => ⟨imin z 1501, fun h => ?_, rfl⟩)
    · refine ⟨⟨by omega, hb⟩, by omega, cP_intro (fun _ => trivial) (fun g1 => cP_intro (fun _ => trivial) (fun g2 => cP_intro (fun _ => trivial) (fun g3 => cP_intro (fun _ => trivial) (fun g4 => ?_))))⟩
      have hw := of_decide_eq_true hw
      have g1 := of_decide_eq_false g1
      have g2 := of_decide_eq_false g2
      have g3 := of_decide_eq_false g3
      have g4 := of_decide_eq_false g4
      refine ⟨by unfold I64; omega, by unfold I64; omega, by unfold I64; omega, by unfold I64; omega, (i + 1, _), ⟨by dsimp only; omega, by dsimp only; omega, by dsimp only; omega, fun k hk => ?_⟩, by dsimp only; omega, rfl, rfl⟩
      rcases Nat.lt_or_ge k i with h | h
      · exact hall k h
      · have : k = i := by dsimp only at hk; omega
        subst this; exact ⟨by omega, by omega, by omega, by omega⟩
    · have hw := of_decide_eq_false hw
      have := hm _ h; omega
  · dsimp only at *
    have : i = c.gn := by have := of_decide_eq_false hb; omega
    subst this
    exact ⟨imin z 1501, fun h => ⟨by omega, by omega, by omega, by omega, hall⟩, rfl⟩
theorem greatVC_true (s : Shf) : greatVC s := by
  unfold greatVC
  have big : ∃ y : Bool, (y = false → s.small) ∧ y = true := ⟨true, fun h => (by cases h), rfl⟩
  simp only [hd_iff, and_true, true_and, Nat.zero_add, Nat.add_zero, unit_ex, unit_all, true_implies, implies_true, Int.toNat_natCast, eq_self, and_self, big]
  refine cP_intro (fun _ => trivial) (fun h1 => cP_intro (fun _ => trivial) (fun h2 => ?_))
  have h1 := of_decide_eq_false h1
  have h2 := of_decide_eq_false h2
  refine ⟨⟨0, ⟨by omega, fun k hk => by omega⟩, rfl⟩, fun i ⟨hi, hall⟩ => cP_intro (fun hb => ?_) (fun hb => ?_)⟩
  · have hb := of_decide_eq_true hb
    refine ⟨⟨by omega, hb⟩, by omega, cP_intro (fun _ => trivial) (fun g1 => ⟨⟨by omega, hb⟩, by omega, cP_intro (fun _ => trivial) (fun g2 => ?_)⟩)⟩
    have g1 := of_decide_eq_false g1
    have g2 := of_decide_eq_false g2
    refine ⟨by unfold I64; omega, i + 1, ⟨by omega, fun k hk => ?_⟩, by omega, rfl⟩
    rcases Nat.lt_or_ge k i with h | h
    · exact hall k h
    · have : k = i := by omega
      subst this; omega
  · have : i = s.n := by have := of_decide_eq_false hb; omega
    subst this
    refine ⟨⟨0, ⟨by omega, fun k hk => by omega⟩, rfl⟩, fun j ⟨hj, hall2⟩ => cP_intro (fun hb => ?_) (fun hb => ?_)⟩
    · have hb := of_decide_eq_true hb
      refine ⟨⟨by omega, hb⟩, by omega, cP_intro (fun _ => trivial) (fun g1 => ?_)⟩
      have g1 := of_decide_eq_false g1
      refine ⟨by unfold I64; omega, j + 1, ⟨by omega, fun k hk => ?_⟩, by omega, rfl⟩
      rcases Nat.lt_or_ge k j with h | h
      · exact hall2 k h
      · have : k = j := by omega
        subst this; omega
    · have : j = s.m := by have := of_decide_eq_false hb; omega
      subst this
      exact ⟨false, fun _ => ⟨by omega, by omega, hall, hall2⟩, rfl⟩
end Go.Proofs.Ytjndgegfonhhfaa
end
section
/- Good calls, the document's: what is asked is so. -/
namespace Go.Proofs.Ytjndgegfonhhfaa
open Go SE
theorem rlongMemVC_true (x : Mem) : rlongMemVC x := by
  have h := longMemVC_true x
  unfold longMemVC at h
  unfold rlongMemVC
  exact h
theorem rlongVC_true (c : Cll) (hc : c.small) : rlongVC c := by
  unfold rlongVC
  simp only [hd_iff, and_true, true_and, Nat.zero_add, Nat.add_zero, unit_ex, unit_all, true_implies, implies_true, Int.toNat_natCast, eq_self, and_self]
  have hp := fun h => long_plain (c := c) h
  have sm := fun i hi => (hc.2.2.2.2 i hi).2.2.2
  have hgn := hc.2.2.2.1
  refine cP_intro (fun h => ?_) (fun h1 => cP_intro (fun h => ?_) (fun h3 => cP_intro (fun h => ?_) (fun h2 => cP_intro (fun h => ?_) (fun h4 => cP_intro (fun h => ?_) (fun h6 => cP_intro (fun h => ?_) (fun h7 => ?_))))))
  all_goals simp only [beq_iff_eq, beq_eq_false_iff_ne] at *
  · rw [hp (by omega), h]; rfl
  · rw [hp (by omega), h]; rfl
  · rw [hp (by omega), h]
    refine cP_intro (fun hk => ?_) (fun hk => ?_) <;> simp only [gt16] at hk
    · have e : ∀ v t : BA, longK 2 c.key v t = true := fun v t => by unfold longK; rw [hk]; rfl
      exact e _ _
    · have e : ∀ v t : BA, longK 2 c.key v t = decide ((400 : Int) < (v.size : Nat)) := fun v t => by unfold longK; rw [hk]; rfl
      exact e _ _
  · rw [hp (by omega), h]; rfl
  · rw [hp (by omega), h]
    refine cP_intro (fun hk => ?_) (fun hk => ?_) <;> simp only [gt16] at hk
    · have e : ∀ v t : BA, longK 6 c.key v t = true := fun v t => by unfold longK; rw [hk]; rfl
      exact e _ _
    · have e : ∀ v t : BA, longK 6 c.key v t = decide ((16 : Int) < (t.size : Nat)) := fun v t => by unfold longK; rw [hk]; rfl
      exact e _ _
  · refine ⟨⟨0, ⟨by omega, fun j hj => by omega⟩, rfl⟩, fun i ⟨hi, hall⟩ => cP_intro (fun hb => ?_) (fun hb => ?_)⟩
    · have hb := of_decide_eq_true hb
      have hl : i < c.gn := by omega
      refine ⟨⟨by omega, hb⟩, hl, ⟨(c.g i).kind, (c.g i).key, (c.g i).value, (c.g i).to, (c.g i).gp, 0, (c.g i).gc⟩, ⟨rfl, rfl, rfl, rfl, by rw [sm i hl]⟩, cP_intro (fun hx => ?_) (fun hx => ?_)⟩
      · exact long_some h hl hx
      · exact ⟨by unfold I64; omega, i + 1, ⟨by omega, invLong_next hall hx⟩, by omega, rfl⟩
    · have : i = c.gn := by have := of_decide_eq_false hb; omega
      subst this; exact long_none h hall
  · rw [hp (by omega)]; simp [longK, *]
theorem rshapeMemVC_true (x : Mem) : rshapeMemVC x := by
  unfold rshapeMemVC
  simp only [hd_iff, and_true, true_and, Nat.zero_add, Nat.add_zero, unit_ex, unit_all, true_implies, implies_true, Int.toNat_natCast, eq_self, and_self, eL, emp_eq, cP_iff, beq_iff_eq, beq_eq_false_iff_ne, rshapeK, keyedM, b2i]
  refine ⟨fun h => ?_, fun h1 => ⟨fun h => ?_, fun h2 => ⟨fun h => ?_, fun h3 => ?_⟩⟩⟩
  · refine ⟨fun he => ?_, fun he => ?_⟩ <;> simp [h, he]
  · refine ⟨fun he => ?_, fun he => ?_⟩ <;> simp [h, he]
  · refine ⟨fun he => ?_, fun he => ?_⟩ <;> simp [h, he]
  · refine ⟨fun h => ?_, fun h4 => ⟨fun h => ?_, fun h5 => ⟨fun h => ?_, fun h6 => ⟨fun h => ?_, fun h8 => ⟨fun h => ?_, fun h7 => ?_⟩⟩⟩⟩⟩ <;> simp [*]
theorem bad1 {c : Cll} (h : shapeM c = false) : b2i (!shapeM c) = 1 := by rw [h]; rfl
theorem ok0 {c : Cll} (h : shapeM c = true) : b2i (!shapeM c) = 0 := by rw [h]; rfl
theorem rshapeVC_true (c : Cll) (hc : c.small) : rshapeVC c := by
  unfold rshapeVC
  simp only [rshapeVC_6, rshapeVC_4, rshapeVC_5, rshapeVC_1, rshapeVC_2, rshapeVC_3]
  simp only [hd_iff, and_true, true_and, Nat.zero_add, Nat.add_zero, unit_ex, unit_all, true_implies, implies_true, Int.toNat_natCast, eq_self, and_self, eL, emp_eq]
  have sm := fun i hi => (hc.2.2.2.2 i hi).2.2.2
  have hgn := hc.2.2.2.1
  refine cP_intro (fun h => ?_) (fun h1 => cP_intro (fun h => ?_) (fun h2 => cP_intro (fun h => ?_) (fun h3 => cP_intro (fun h => ?_) (fun h4 => cP_intro (fun h => ?_) (fun h5 => cP_intro (fun h => ?_) (fun h6 => cP_intro (fun h => ?_) (fun h8 => cP_intro (fun h7 => ?_) (fun h7 => ?_))))))))
  all_goals simp only [beq_iff_eq, beq_eq_false_iff_ne] at *
  rotate_left 7
  · refine cP_intro (fun hn => bad1 (shape_n h7 (by have := of_decide_eq_true hn; omega))) (fun hn => cP_intro (fun hn2 => bad1 (shape_n h7 (by have := of_decide_eq_true hn2; omega))) (fun hn2 => ?_))
    have hn := of_decide_eq_false hn
    have hn2 := of_decide_eq_false hn2
    refine ⟨⟨0, ⟨by omega, fun j hj => by omega⟩, rfl⟩, fun i ⟨hi, hms⟩ => cP_intro (fun hb => ?_) (fun hb => ?_)⟩
    · have hb := of_decide_eq_true hb
      have hl : i < c.gn := by omega
      refine ⟨⟨by omega, hb⟩, hl, cP_intro (fun k2 => cP_intro (fun k3 => cP_intro (fun k4 => ?_) (fun k4 => ?_)) (fun k3 => ?_)) (fun k2 => ?_)⟩
      · have g1 : (c.g i).kind ≠ 2 := by simpa using k2
        have g2 : (c.g i).kind ≠ 3 := by simpa using k3
        have g3 : (c.g i).kind ≠ 4 := by simpa using k4
        exact bad1 (shape_bad h7 hl (mem_bad (.inl (by simp [groupedM, g1, g2, g3]))))
      all_goals
        have gk : (c.g i).kind = 2 ∨ (c.g i).kind = 3 ∨ (c.g i).kind = 4 := by
          first | (have : (c.g i).kind = 4 := by simpa using k4
                   omega) | (have : (c.g i).kind = 3 := by simpa using k3
                             omega) | (have : (c.g i).kind = 2 := by simpa using k2
                                       omega)
        have hg : groupedM (c.g i).kind = true := by rcases gk with h | h | h <;> rw [h] <;> rfl
        have hr : rshapeK (c.g i).kind (c.g i).key = b2i (keyedM (c.g i).kind && emp (c.g i).key) := by
          rcases gk with h | h | h <;> rw [h] <;> rfl
        have hkd : keyedM (c.g i).kind = ((c.g i).kind != 4) := by rcases gk with h | h | h <;> rw [h] <;> rfl
        refine ⟨⟨by omega, hb⟩, hl, ⟨(c.g i).kind, (c.g i).key, (c.g i).value, (c.g i).to, (c.g i).gp, 0, (c.g i).gc⟩, ⟨rfl, rfl, rfl, rfl, by rw [sm i hl]⟩, ?_⟩
        simp only [hr]
        refine cP_intro (fun hx => ?_) (fun hx => ?_)
        · refine bad1 (shape_bad h7 hl (mem_bad (.inr (.inl ?_))))
          cases hq : (keyedM (c.g i).kind && emp (c.g i).key) with
          | true => rfl
          | false => rw [hq] at hx; cases hx
        have hke : (keyedM (c.g i).kind && emp (c.g i).key) = false := by
          cases hq : (keyedM (c.g i).kind && emp (c.g i).key) with
          | true => rw [hq] at hx; cases hx
          | false => rfl
        refine ⟨⟨0, ⟨by omega, fun j hj => by omega⟩, rfl⟩, fun j ⟨hj, hjs⟩ => ?_⟩
        refine cP_intro (fun hb => ?_) (fun hb => ?_)
        · have hb := of_decide_eq_true hb
          have hjl : j < i := by omega
          have next : clash c i j = false → I64 ((j : Int) + 1) ∧ ∃ q : Nat, (q ≤ i ∧ invJ c i q) ∧ i - q < i - j ∧ (q : Int) = (j : Int) + 1 := fun h => ⟨by unfold I64; omega, j + 1, ⟨by omega, invJ_next hjs h⟩, by omega, rfl⟩
          have gkj : groupedM (c.g j).kind = true := by
            have := hms j hjl
            unfold memOk at this
            simp only [Bool.and_eq_true] at this
            exact this.1.1
          have hkj : keyedM (c.g j).kind = ((c.g j).kind != 4) := by
            simp only [groupedM, Bool.or_eq_true, decide_eq_true_eq] at gkj
            rcases gkj with (h | h) | h <;> rw [h] <;> rfl
          refine cP_intro (fun ha => ⟨⟨by omega, by omega⟩, by omega, cP_intro (fun hb2 => ⟨⟨by omega, by omega⟩, by omega, ⟨by omega, by omega⟩, by omega, cP_intro (fun hq => ?_) (fun hq => ?_)⟩) (fun hb2 => ?_)⟩) (fun ha => ?_)
          · exact bad1 (shape_bad h7 hl (mem_bad (.inr (.inr ⟨j, hjl, by unfold clash; rw [hkd, hkj, ha, hb2, hq]; rfl⟩))))
          · exact next (by unfold clash; rw [hq]; simp)
          · exact next (by unfold clash; rw [hkj, hb2]; simp)
          · exact next (by unfold clash; rw [hkd, ha]; simp)
        · have hb := of_decide_eq_false hb
          have : j = i := by omega
          subst this
          exact ⟨by unfold I64; omega, j + 1, ⟨by omega, invMs_next hms (mem_good hg hke hjs)⟩, by omega, rfl⟩
    · have : i = c.gn := by have := of_decide_eq_false hb; omega
      subst this
      exact ok0 (shape_group h7 (by omega) hms)
  · refine bad1 (shape_kind (by omega))
  · refine cP_intro (fun he => bad1 (shape_key (by rw [h]; rfl) he)) (fun he => ok0 (shape_plain (by omega) (by rw [he, h]; rfl) (by omega)))
  · refine cP_intro (fun he => bad1 (shape_key (by rw [h]; rfl) he)) (fun he => ok0 (shape_plain (by omega) (by rw [he, h]; rfl) (by omega)))
  · refine cP_intro (fun he => bad1 (shape_key (by rw [h]; rfl) he)) (fun he => ok0 (shape_plain (by omega) (by rw [he, h]; rfl) (by omega)))
  · exact ok0 (shape_plain (by omega) (by rw [h]; rfl) (by omega))
  · exact ok0 (shape_plain (by omega) (by rw [h]; rfl) (by omega))
  · exact ok0 (shape_plain (by omega) (by rw [h]; rfl) (by omega))
  · exact ok0 (shape_plain (by omega) (by rw [h]; rfl) (by omega))
theorem goodVC_true (c : Cll) (hc : c.small) : goodVC c := by
  unfold goodVC
  simp only [hd_iff, and_true, true_and, Nat.zero_add, Nat.add_zero, unit_ex, unit_all, true_implies, implies_true, Int.toNat_natCast, eq_self, and_self]
  refine ⟨c, by have := hc.2.2.2.1; omega, ⟨rfl, rfl, rfl, rfl, rfl⟩, ⟨rfl, fun _ _ => rfl⟩, cP_intro (fun h => ?_) (fun h => ⟨c, hc, ⟨rfl, rfl, rfl, rfl, rfl⟩, ⟨rfl, fun _ _ => rfl⟩, cP_intro (fun h2 => ?_) (fun h2 => ?_)⟩)⟩
  · have h : shapeM c = false := by simpa using h
    unfold goodM; rw [h]; rfl
  · have h : shapeM c = true := by simpa using h
    unfold goodM; rw [h, h2]; rfl
  · have h : shapeM c = true := by simpa using h
    unfold goodM; rw [h, h2]; rfl
theorem rgoodVC_true (c : Cll) (hc : c.small) : rgoodVC c := by
  unfold rgoodVC
  simp only [hd_iff, and_true, true_and, Nat.zero_add, Nat.add_zero, unit_ex, unit_all, true_implies, implies_true, Int.toNat_natCast, eq_self, and_self]
  refine ⟨c, hc, ⟨rfl, rfl, rfl, rfl, rfl⟩, ⟨rfl, fun _ _ => rfl⟩, ?_⟩
  cases h : shapeM c with
  | false =>
    refine cP_intro (fun h1 => by cases h1) (fun h1 => ?_)
    unfold goodM; rw [h]; rfl
  | true =>
    refine cP_intro (fun _ => ⟨c, hc, ⟨rfl, rfl, rfl, rfl, rfl⟩, ⟨rfl, fun _ _ => rfl⟩, cP_intro (fun h2 => ?_) (fun h2 => ?_)⟩) (fun h1 => by cases h1)
    · unfold goodM; rw [h, h2]; rfl
    · unfold goodM; rw [h, h2]; rfl
theorem shape_ok : CtrOk Try.prog 53 shapeC := det_end tt_ok mixed tblK_ok anShape 200 5 (fun _ => rfl) (fun _ => rfl) fun x hx => Eq.mp (shapeVC_ok x) (shapeVC_true x hx)
theorem longMem_ok : CtrOk Try.prog 54 longMemC := det_end tt_ok mixed TblOk.nil (fun _ => noAn) 200 5 (fun _ => rfl) (fun _ => rfl) fun x _ => Eq.mp (longMemVC_ok x) (longMemVC_true x)
theorem long_ok : CtrOk Try.prog 54 longC := det_end tt_ok mixed (.cons (ctrT_ok longMem_ok) .nil) anLong 200 5 (fun _ => rfl) (fun _ => rfl) fun x hx => Eq.mp (longVC_ok x) (longVC_true x (hd_iff.1 hx))
theorem rlongMem_ok : CtrOk Try.prog 73 longMemC := det_end tt_ok mixed TblOk.nil (fun _ => noAn) 200 5 (fun _ => rfl) (fun _ => rfl) fun x _ => Eq.mp (rlongMemVC_ok x) (rlongMemVC_true x)
theorem rlong_ok : CtrOk Try.prog 73 longC := det_end tt_ok mixed (.cons (ctrT_ok rlongMem_ok) .nil) anRLong 200 5 (fun _ => rfl) (fun _ => rfl) fun x hx => Eq.mp (rlongVC_ok x) (rlongVC_true x (hd_iff.1 hx))
theorem rshapeMem_ok : CtrOk Try.prog 72 rshapeMemC := det_end tt_ok mixed TblOk.nil (fun _ => noAn) 200 5 (fun _ => rfl) (fun _ => rfl) fun x _ => Eq.mp (rshapeMemVC_ok x) (rshapeMemVC_true x)
theorem rshape_ok : CtrOk Try.prog 72 rshapeC := det_end tt_ok mixed (.cons (ctrT_ok rshapeMem_ok) .nil) anRShape 200 5 (fun _ => rfl) (fun _ => rfl) fun x hx => Eq.mp (rshapeVC_ok x) (rshapeVC_true x (hd_iff.1 hx))
theorem good_ok : CtrOk Try.prog 17 goodC := det_end tt_ok mixed (.cons (ctrT_ok shape_ok) (.cons (ctrT_ok long_ok) .nil)) (fun _ => noAn) 200 5 (fun _ => rfl) (fun _ => rfl) fun x hx => Eq.mp (goodVC_ok x) (goodVC_true x (hd_iff.1 hx))
theorem rgood_ok : CtrOk Try.prog 44 goodC := det_end tt_ok mixed (.cons (ctrT_ok rshape_ok) (.cons (ctrT_ok rlong_ok) .nil)) (fun _ => noAn) 200 5 (fun _ => rfl) (fun _ => rfl) fun x hx => Eq.mp (rgoodVC_ok x) (rgoodVC_true x (hd_iff.1 hx))
theorem weight_ok : CtrOk Try.prog 10 weightC := ctr_end tt_ok mixed TblOk.nil (C := weightC) anWeight 200 5 (fun _ => rfl) (fun x o ho y => by have ho := List.mem_singleton.1 ho; subst ho; rfl) fun x _ => Eq.mp (weightVC_ok x) (weightVC_true x)
theorem great_ok : CtrOk Try.prog 9 greatC := ctr_end tt_ok mixed TblOk.nil (C := greatC) anGreat 200 5 (fun _ => rfl) (fun x o ho y => by have ho := List.mem_singleton.1 ho; subst ho; rfl) fun x _ => Eq.mp (greatVC_ok x) (greatVC_true x)
theorem find_ok : CtrOk Try.prog 35 findC := det_end tt_ok mixed tblV_ok anFind 200 5 (fun _ => rfl) (fun _ => rfl) fun x hx => Eq.mp (findVC_ok x) (findVC_true x (hd_iff.1 hx))
theorem rfind_ok : CtrOk Try.prog 46 findC := det_end tt_ok mixed tblV_ok anRFind 200 5 (fun _ => rfl) (fun _ => rfl) fun x hx => Eq.mp (rfindVC_ok x) (rfindVC_true x (hd_iff.1 hx))
theorem seek_ok : CtrOk Try.prog 41 seekC := det_end tt_ok mixed tblV_ok (anSeek 41) 200 5 (fun _ => rfl) (fun _ => rfl) fun x hx => Eq.mp (seekVC_ok x) (seekVC_true x (hd_iff.1 hx))
theorem rseek_ok : CtrOk Try.prog 78 seekC := det_end tt_ok mixed tblV_ok (anSeek 78) 200 5 (fun _ => rfl) (fun _ => rfl) fun x hx => Eq.mp (rseekVC_ok x) (rseekVC_true x (hd_iff.1 hx))
theorem may_ok : CtrOk Try.prog 16 mayC := det_end tt_ok mixed TblOk.nil anMay 200 5 (fun _ => rfl) (fun _ => rfl) fun x hx => Eq.mp (mayVC_ok x) (mayVC_true x (hd_iff.1 hx))
theorem rmay_ok : CtrOk Try.prog 43 mayC := det_end tt_ok mixed TblOk.nil anRMay 200 5 (fun _ => rfl) (fun _ => rfl) fun x hx => Eq.mp (rmayVC_ok x) (rmayVC_true x (hd_iff.1 hx))
theorem place_ok : CtrOk Try.prog 68 placeC := det_end tt_ok mixed TblOk.nil anPlace 200 5 (fun _ => rfl) (fun _ => rfl) fun x hx => Eq.mp (placeVC_ok x) (placeVC_true x (hd_iff.1 hx))
theorem get_ok : CtrOk Try.prog 36 getC := det_end tt_ok mixed (.cons (ctrT_ok place_ok) .nil) (fun _ => noAn) 200 5 (fun _ => rfl) (fun _ => rfl) fun x hx => Eq.mp (getVC_ok x) (getVC_true x (hd_iff.1 hx))
theorem rget_ok : CtrOk Try.prog 45 getC := det_end tt_ok mixed TblOk.nil anRGet 200 5 (fun _ => rfl) (fun _ => rfl) fun x hx => Eq.mp (rgetVC_ok x) (rgetVC_true x (hd_iff.1 hx))
end Go.Proofs.Ytjndgegfonhhfaa
end
section
/- What is asked of a sum. -/
namespace Go.Proofs.Ytjndgegfonhhfaa
open Go SE
def sumVC_wp (c : Nat → Cst) (n : Nat) (r : Cst) : Prop := wpF Try.prog [] tt (anSum c n) 200 5 15 [.slR 0 0 6 n] (hO 1 [.ro (rowC c n)]) (fun v h' => endP 1 r.av [.ro (rowC c n)] v h')
def sumVC (c : Nat → Cst) (n : Nat) (r : Cst) : Prop :=
  ((∃ (s : Nat), ((s ≤ n) ∧ (True ∧ (((((s : Nat) : Int) = (0 : Int)) ∧ True) ∧ ((((@Cst.s0 (@Cst.sum c s)) = (0 : Int)) ∧ (((@Cst.s1 (@Cst.sum c s)) = (0 : Int)) ∧ (((@Cst.s2 (@Cst.sum c s)) = (0 : Int)) ∧ (((@Cst.s3 (@Cst.sum c s)) = (0 : Int)) ∧ (((@Cst.s4 (@Cst.sum c s)) = (0 : Int)) ∧ (((@Cst.s5 (@Cst.sum c s)) = (0 : Int)) ∧ True)))))) ∧ ((((0 : Int) = (0 : Int)) ∧ (((0 : Int) = (0 : Int)) ∧ (((0 : Int) = (0 : Int)) ∧ (((0 : Int) = (0 : Int)) ∧ (((0 : Int) = (0 : Int)) ∧ (((0 : Int) = (0 : Int)) ∧ True)))))) ∧ ((((@rowC c n) = (@rowC c n)) ∧ (Bool.true = Bool.true)) ∧ True))))))) ∧ ((∀ (s : Nat), ((s ≤ n) → (cP (decide (((s : Nat) : Int) < ((n : Nat) : Int))) ((((0 : Int) ≤ ((s : Nat) : Int)) ∧ (((s : Nat) : Int) < ((n : Nat) : Int))) ∧ (((0 + s) < n) ∧ (cP (@Bool.and (BEq.beq (@Cst.s0 (c (0 + s))) (0 : Int)) (@Bool.and (BEq.beq (@Cst.s1 (c (0 + s))) (0 : Int)) (@Bool.and (BEq.beq (@Cst.s2 (c (0 + s))) (0 : Int)) (@Bool.and (BEq.beq (@Cst.s3 (c (0 + s))) (0 : Int)) (@Bool.and (BEq.beq (@Cst.s4 (c (0 + s))) (0 : Int)) (@Bool.and (BEq.beq (@Cst.s5 (c (0 + s))) (0 : Int)) Bool.true)))))) ((I64 (((s : Nat) : Int) + (1 : Int))) ∧ (∃ (s_1 : Nat), ((s_1 ≤ n) ∧ (((n - s_1) < (n - s)) ∧ (((((s_1 : Nat) : Int) = (((s : Nat) : Int) + (1 : Int))) ∧ True) ∧ ((((@Cst.s0 (@Cst.sum c s_1)) = (@Cst.s0 (@Cst.sum c s))) ∧ (((@Cst.s1 (@Cst.sum c s_1)) = (@Cst.s1 (@Cst.sum c s))) ∧ (((@Cst.s2 (@Cst.sum c s_1)) = (@Cst.s2 (@Cst.sum c s))) ∧ (((@Cst.s3 (@Cst.sum c s_1)) = (@Cst.s3 (@Cst.sum c s))) ∧
 (((@Cst.s4 (@Cst.sum c s_1)) = (@Cst.s4 (@Cst.sum c s))) ∧ (((@Cst.s5 (@Cst.sum c s_1)) = (@Cst.s5 (@Cst.sum c s))) ∧ True)))))) ∧ ((((0 : Int) = (0 : Int)) ∧ (((0 : Int) = (0 : Int)) ∧ (((0 : Int) = (0 : Int)) ∧ (((0 : Int) = (0 : Int)) ∧ (((0 : Int) = (0 : Int)) ∧ (((0 : Int) = (0 : Int)) ∧ True)))))) ∧ ((((@rowC c n) = (@rowC c n)) ∧ (Bool.true = Bool.true)) ∧ True)))))))) ((I64 ((1099511627776 : Int) - (@Cst.s0 (@Cst.sum c s)))) ∧ ((I64 ((@Cst.s0 (@Cst.sum c s)) + (imin (@imax (@Cst.s0 (c (0 + s))) (0 : Int)) ((1099511627776 : Int) - (@Cst.s0 (@Cst.sum c s)))))) ∧ ((((AV.lit (Value.int IntKind.i64 (@Cst.s2 (c (0 + s))))) = (AV.lit (Value.int IntKind.i64 (@Cst.s2 (c (0 + s)))))) ∧ (((AV.lit (Value.int IntKind.i64 (@Cst.s2 (@Cst.sum c s)))) = (AV.lit (Value.int IntKind.i64 (@Cst.s2 (@Cst.sum c s))))) ∧ (((AV.lit (Value.int IntKind.i64 (@Cst.s1 (c (0 + s))))) = (AV.lit (Value.int IntKind.i64 (@Cst.s1 (c (0 + s)))))) ∧ (((AV.lit (Value.int IntKind.i64 (@Cst.s1 (@Cst.sum c s)))) = (AV.lit (Value.int IntKind.i64 (@Cst.s1 (@Cst.sum c s))))) ∧ True)))) ∧ ((I64 ((1099511627776 : Int) - (@Cst.s1 (@Cst.sum c s)))) ∧ ((I64 ((@Cst.s1 (@Cst.sum c s)) + (imin (@imax (@Cst.s1 (c (0 + s))) (0 : Int)) ((1099511627776 : Int) - (@Cst.s1 (@Cst.sum c s)))))) ∧ ((((AV.lit (Value.int IntKind.i64 (@Cst.s2 (c (0 + s))))) = (AV.lit (Value.int IntKind.i64 (@Cst.s2 (c (0 + s)))))) ∧ (((AV.lit (Value.int IntKind.i64 (@Cst.s2 (@Cst.sum c s)))) = (AV.lit (Value.int IntKind.i64 (@Cst.s2 (@Cst.sum c s))))) ∧
 True)) ∧ ((I64 ((1099511627776 : Int) - (@Cst.s2 (@Cst.sum c s)))) ∧ ((I64 ((@Cst.s2 (@Cst.sum c s)) + (imin (@imax (@Cst.s2 (c (0 + s))) (0 : Int)) ((1099511627776 : Int) - (@Cst.s2 (@Cst.sum c s)))))) ∧ (True ∧ (True ∧ (True ∧ (True ∧ ((I64 ((1099511627776 : Int) - (@Cst.s3 (@Cst.sum c s)))) ∧ ((I64 ((@Cst.s3 (@Cst.sum c s)) + (imin (@imax (@Cst.s3 (c (0 + s))) (0 : Int)) ((1099511627776 : Int) - (@Cst.s3 (@Cst.sum c s)))))) ∧ ((((AV.lit (Value.int IntKind.i64 (@Cst.s5 (c (0 + s))))) = (AV.lit (Value.int IntKind.i64 (@Cst.s5 (c (0 + s)))))) ∧ (((AV.lit (Value.int IntKind.i64 (@Cst.s5 (@Cst.sum c s)))) = (AV.lit (Value.int IntKind.i64 (@Cst.s5 (@Cst.sum c s))))) ∧ (((AV.lit (Value.int IntKind.i64 (@Cst.s4 (c (0 + s))))) = (AV.lit (Value.int IntKind.i64 (@Cst.s4 (c (0 + s)))))) ∧ (((AV.lit (Value.int IntKind.i64 (@Cst.s4 (@Cst.sum c s)))) = (AV.lit (Value.int IntKind.i64 (@Cst.s4 (@Cst.sum c s))))) ∧ True)))) ∧ ((I64 ((1099511627776 : Int) - (@Cst.s4 (@Cst.sum c s)))) ∧ ((I64 ((@Cst.s4 (@Cst.sum c s)) + (imin (@imax (@Cst.s4 (c (0 + s))) (0 : Int)) ((1099511627776 : Int) - (@Cst.s4 (@Cst.sum c s)))))) ∧ ((((AV.lit (Value.int IntKind.i64 (@Cst.s5 (c (0 + s))))) = (AV.lit (Value.int IntKind.i64 (@Cst.s5 (c (0 + s)))))) ∧ (((AV.lit (Value.int IntKind.i64 (@Cst.s5 (@Cst.sum c s)))) = (AV.lit (Value.int IntKind.i64 (@Cst.s5 (@Cst.sum c s))))) ∧ True)) ∧ ((I64 ((1099511627776 : Int) - (@Cst.s5 (@Cst.sum c s)))) ∧ ((I64 ((@Cst.s5 (@Cst.sum c s)) + (imin (@imax (@Cst.s5 (c (0 + s))) (0 : Int)) ((1099511627776 : Int) - (@Cst.s5 (@Cst.sum c s)))))) ∧
 (True ∧ (True ∧ (True ∧ (True ∧ ((I64 (((s : Nat) : Int) + (1 : Int))) ∧ (∃ (s_1 : Nat), ((s_1 ≤ n) ∧ (((n - s_1) < (n - s)) ∧ (((((s_1 : Nat) : Int) = (((s : Nat) : Int) + (1 : Int))) ∧ True) ∧ ((((@Cst.s0 (@Cst.sum c s_1)) = ((@Cst.s0 (@Cst.sum c s)) + (imin (@imax (@Cst.s0 (c (0 + s))) (0 : Int)) ((1099511627776 : Int) - (@Cst.s0 (@Cst.sum c s)))))) ∧ (((@Cst.s1 (@Cst.sum c s_1)) = ((@Cst.s1 (@Cst.sum c s)) + (imin (@imax (@Cst.s1 (c (0 + s))) (0 : Int)) ((1099511627776 : Int) - (@Cst.s1 (@Cst.sum c s)))))) ∧ (((@Cst.s2 (@Cst.sum c s_1)) = ((@Cst.s2 (@Cst.sum c s)) + (imin (@imax (@Cst.s2 (c (0 + s))) (0 : Int)) ((1099511627776 : Int) - (@Cst.s2 (@Cst.sum c s)))))) ∧ (((@Cst.s3 (@Cst.sum c s_1)) = ((@Cst.s3 (@Cst.sum c s)) + (imin (@imax (@Cst.s3 (c (0 + s))) (0 : Int)) ((1099511627776 : Int) - (@Cst.s3 (@Cst.sum c s)))))) ∧ (((@Cst.s4 (@Cst.sum c s_1)) = ((@Cst.s4 (@Cst.sum c s)) + (imin (@imax (@Cst.s4 (c (0 + s))) (0 : Int)) ((1099511627776 : Int) - (@Cst.s4 (@Cst.sum c s)))))) ∧ (((@Cst.s5 (@Cst.sum c s_1)) = ((@Cst.s5 (@Cst.sum c s)) + (imin (@imax (@Cst.s5 (c (0 + s))) (0 : Int)) ((1099511627776 : Int) - (@Cst.s5 (@Cst.sum c s)))))) ∧ True)))))) ∧ ((((0 : Int) = (0 : Int)) ∧ (((0 : Int) = (0 : Int)) ∧ (((0 : Int) = (0 : Int)) ∧ (((0 : Int) = (0 : Int)) ∧ (((0 : Int) = (0 : Int)) ∧ (((0 : Int) = (0 : Int)) ∧ True)))))) ∧ ((((@rowC c n) = (@rowC c n)) ∧ (Bool.true = Bool.true)) ∧ True))))))))))))))))))))))))))))))))))) (((r.s0 = (@Cst.s0 (@Cst.sum c s))) ∧ ((r.s1 = (@Cst.s1 (@Cst.sum c s))) ∧
 ((r.s2 = (@Cst.s2 (@Cst.sum c s))) ∧ ((r.s3 = (@Cst.s3 (@Cst.sum c s))) ∧ ((r.s4 = (@Cst.s4 (@Cst.sum c s))) ∧ ((r.s5 = (@Cst.s5 (@Cst.sum c s))) ∧ True)))))) ∧ ((((@rowC c n) = (@rowC c n)) ∧ (Bool.true = Bool.true)) ∧ True))))) ∧ True))
theorem sumVC_ok (c : Nat → Cst) (n : Nat) (r : Cst) : sumVC c n r = sumVC_wp c n r := by kernel_rfl
end Go.Proofs.Ytjndgegfonhhfaa
end
section
/- Sums. -/
namespace Go.Proofs.Ytjndgegfonhhfaa
open Go SE
namespace Cst
theorem held_ok {a b : Int} (h : okI a) : okI (heldM a b) := by unfold okI heldM maxCost imin imax at *; grind
theorem held_zero {a : Int} (h : okI a) : heldM a 0 = a := by unfold okI heldM maxCost imin imax at *; grind
theorem add_ok {x y : Cst} (h : x.ok) : (add x y).ok := by
  obtain ⟨h0, h1, h2, h3, h4, h5⟩ := h
  exact ⟨held_ok h0, held_ok h1, held_ok h2, held_ok h3, held_ok h4, held_ok h5⟩
theorem zero_ok : zero.ok := by unfold ok zero okI maxCost; simp
theorem sum_ok (c : Nat → Cst) : ∀ n, (sum c n).ok
  | 0 => zero_ok
  | n + 1 => add_ok (sum_ok c n)
theorem add_zero {x y : Cst} (h : x.ok) (h0 : y.s0 = 0) (h1 : y.s1 = 0) (h2 : y.s2 = 0) (h3 : y.s3 = 0) (h4 : y.s4 = 0) (h5 : y.s5 = 0) : add x y = x := by
  obtain ⟨k0, k1, k2, k3, k4, k5⟩ := h
  simp only [add, h0, h1, h2, h3, h4, h5, held_zero k0, held_zero k1, held_zero k2, held_zero k3, held_zero k4, held_zero k5]
theorem held_i64 {a b : Int} (h : okI a) : I64 (1099511627776 - a) ∧ I64 (a + imin (imax b 0) (1099511627776 - a)) := by
  have := held_ok (b := b) h
  unfold okI heldM maxCost at *; unfold I64; grind
end Cst
theorem sumVC_true (c : Nat → Cst) (n : Nat) (hn : n < 4611686018427387904) : sumVC c n (Cst.sum c n) := by
  unfold sumVC
  refine ⟨⟨(0 : Nat), ?_⟩, fun (s : Nat) (hs : s ≤ n) => ?_, trivial⟩
  · simp [Cst.sum, Cst.zero]
  obtain ⟨k0, k1, k2, k3, k4, k5⟩ := Cst.sum_ok c s
  simp only [Nat.zero_add, Int.toNat_natCast]
  refine cP_intro (fun hb => ?_) (fun hb => ?_)
  · have hb : (s : Int) < n := of_decide_eq_true hb
    have hsn : s < n := by omega
    have hI : I64 ((s : Int) + 1) := by unfold I64; omega
    refine ⟨⟨by omega, hb⟩, hsn, cP_intro (fun hz => ?_) (fun hz => ?_)⟩
    · simp only [Bool.and_eq_true, beq_iff_eq, Bool.and_true] at hz
      obtain ⟨z0, z1, z2, z3, z4, z5⟩ := hz
      have e : Cst.sum c (s + 1) = Cst.sum c s := Cst.add_zero (Cst.sum_ok c s) z0 z1 z2 z3 z4 z5
      refine ⟨hI, (s + 1 : Nat), ?_⟩
      simp only [e, and_true, true_and]
      exact ⟨by omega, by omega, by push_cast; rfl⟩
    · have a0 := fun b => Cst.held_i64 (b := b) k0
      have a1 := fun b => Cst.held_i64 (b := b) k1
      have a2 := fun b => Cst.held_i64 (b := b) k2
      have a3 := fun b => Cst.held_i64 (b := b) k3
      have a4 := fun b => Cst.held_i64 (b := b) k4
      have a5 := fun b => Cst.held_i64 (b := b) k5
      refine ⟨(a0 0).1, (a0 _).2, by simp, (a1 0).1, (a1 _).2, by simp, (a2 0).1, (a2 _).2, trivial, trivial, trivial, trivial, (a3 0).1, (a3 _).2, by simp, (a4 0).1, (a4 _).2, by simp, (a5 0).1, (a5 _).2, trivial, trivial, trivial, trivial, hI, (s + 1 : Nat), ?_⟩
      simp only [Cst.sum, Cst.add, Cst.heldM, Cst.maxCost, and_true, true_and]
      exact ⟨by omega, by omega, by push_cast; rfl⟩
  · have hb : ¬ (s : Int) < n := of_decide_eq_false hb
    obtain rfl : s = n := by omega
    simp
theorem sum_sp (c : Nat → Cst) (n : Nat) (hn : n < 4611686018427387904) : Sp Try.prog 15 [.slR 0 0 6 n] (hO 1 [.ro (rowC c n)]) (fun v h' => v = (Cst.sum c n).av ∧ h' = hO 1 [.ro (rowC c n)]) := by
  have h := sumVC_true c n hn
  rw [sumVC_ok] at h
  unfold sumVC_wp at h
  exact sp_endk tt_ok mixed TblOk.nil (anSum c n) 200 5 1 1 rfl rfl h
end Go.Proofs.Ytjndgegfonhhfaa
end
section
/- A program that is awake. -/
namespace Go.Proofs.Ytjndgegfonhhfaa
open Go SE
def awakeVC_wp  : Prop := wpF Try.prog [] tt (fun _ _ _ _ => []) 400 20 11 [] (hO 0 []) (fun v h' => endP 0 (.lit (.bool true)) [] v h')
def awakeVC_1  : Prop := ((AV.lit (Value.int IntKind.i64 (0 : Int))) = (AV.lit (Value.int IntKind.i64 (0 : Int))))
def awakeVC_2  : Prop := ((I64 (1099511627776 : Int)) ∧ ((I64 (0 : Int)) ∧ (True ∧ (True ∧ (True ∧ (True ∧ ((I64 (2 : Int)) ∧ ((((0 : Int) ≤ (0 : Int)) ∧ ((0 : Int) ≤ (2 : Int))) ∧ ((((0 : Int) ≤ (5 : Int)) ∧ ((0 : Int) ≤ (252 : Int))) ∧ ((5 < 258) ∧ ((((0 : Int) ≤ (5 : Int)) ∧ ((0 : Int) ≤ (252 : Int))) ∧ ((5 < 258) ∧ ((I64 (1 : Int)) ∧ ((I64 (1 : Int)) ∧ ((((0 : Int) ≤ (1 : Int)) ∧ ((0 : Int) ≤ (1 : Int))) ∧ ((((0 : Int) ≤ (3 : Int)) ∧ ((0 : Int) ≤ (254 : Int))) ∧ ((3 < 258) ∧ ((((0 : Int) ≤ (3 : Int)) ∧ ((0 : Int) ≤ (254 : Int))) ∧ ((3 < 258) ∧ ((I64 (2 : Int)) ∧ ((I64 (2 : Int)) ∧ ((((0 : Int) ≤ (2 : Int)) ∧ ((0 : Int) ≤ (0 : Int))) ∧ ((((0 : Int) ≤ (5 : Int)) ∧ ((0 : Int) ≤ (252 : Int))) ∧ ((5 < 258) ∧ ((I64 (3 : Int)) ∧ ((I64 (6 : Int)) ∧ ((I64 (3 : Int)) ∧ ((Bool.true = Bool.true) ∧ True))))))))))))))))))))))))))))
def awakeVC_3  : Prop := ((AV.lit (Value.int IntKind.i64 (2 : Int))) = (AV.lit (Value.int IntKind.i64 (2 : Int))))
def awakeVC_4  : Prop := ((AV.lit (Value.int IntKind.i64 (1 : Int))) = (AV.lit (Value.int IntKind.i64 (1 : Int))))
def awakeVC_8  : Prop := ((AV.lit (Value.string (@ByteArray.mk (@List.toArray UInt8 [(97 : UInt8)])))) = (AV.lit (Value.string (@ByteArray.mk (@List.toArray UInt8 [(97 : UInt8)])))))
def awakeVC_9  : Prop := ((AV.agg [(AV.lit (Value.slice none 0 0)), (AV.lit (Value.slice none 0 0))]) = (AV.agg [(AV.lit (Value.slice none 0 0)), (AV.lit (Value.slice none 0 0))]))
def awakeVC_5  : Prop := ((awakeVC_8 ) ∧ ((awakeVC_9 ) ∧ True))
def awakeVC_6  : Prop := (((0 : Int) ≤ (0 : Int)) ∧ ((0 : Int) ≤ (1 : Int)))
def awakeVC_11  : Prop := ((awakeVC_1 ) ∧ ((awakeVC_1 ) ∧ True))
def awakeVC_12  : Prop := ((awakeVC_1 ) ∧ ((awakeVC_1 ) ∧ ((awakeVC_3 ) ∧ ((awakeVC_1 ) ∧ True))))
def awakeVC_13  : Prop := ((awakeVC_1 ) ∧ ((awakeVC_1 ) ∧ ((awakeVC_4 ) ∧ ((awakeVC_1 ) ∧ True))))
def awakeVC_10  : Prop := (True ∧ (True ∧ ((awakeVC_6 ) ∧ ((I64 (1099511627776 : Int)) ∧ ((I64 (3 : Int)) ∧ (((awakeVC_1 ) ∧ ((awakeVC_1 ) ∧ (awakeVC_11 ))) ∧ ((I64 (1099511627776 : Int)) ∧ ((I64 (0 : Int)) ∧ ((awakeVC_11 ) ∧ ((I64 (1099511627776 : Int)) ∧ ((I64 (0 : Int)) ∧ (True ∧ (True ∧ (True ∧ (True ∧ ((I64 (1099511627776 : Int)) ∧ ((I64 (0 : Int)) ∧ (((awakeVC_1 ) ∧ ((awakeVC_1 ) ∧ (awakeVC_11 ))) ∧ ((I64 (1099511627776 : Int)) ∧ ((I64 (0 : Int)) ∧ ((awakeVC_11 ) ∧ ((I64 (1099511627776 : Int)) ∧ ((I64 (0 : Int)) ∧ (True ∧ (True ∧ (True ∧ (True ∧ ((I64 (1 : Int)) ∧ ((((0 : Int) ≤ (1 : Int)) ∧ ((0 : Int) ≤ (0 : Int))) ∧ ((I64 (1099511627773 : Int)) ∧ ((I64 (6 : Int)) ∧ ((awakeVC_12 ) ∧ ((I64 (1099511627776 : Int)) ∧ ((I64 (2 : Int)) ∧ ((awakeVC_11 ) ∧ ((I64 (1099511627776 : Int)) ∧ ((I64 (0 : Int)) ∧ (True ∧ (True ∧ (True ∧ (True ∧ ((I64 (1099511627776 : Int)) ∧ ((I64 (0 : Int)) ∧ ((awakeVC_13 ) ∧ ((I64 (1099511627776 : Int)) ∧ ((I64 (1 : Int)) ∧ ((awakeVC_11 ) ∧ (awakeVC_2 ))))))))))))))))))))))))))))))))))))))))))))))))
def awakeVC_7  : Prop := (True ∧ ((awakeVC_6 ) ∧ ((I64 (1099511627776 : Int)) ∧ ((I64 (2 : Int)) ∧ ((awakeVC_12 ) ∧ ((I64 (1099511627776 : Int)) ∧ ((I64 (2 : Int)) ∧ ((awakeVC_11 ) ∧ ((I64 (1099511627776 : Int)) ∧ ((I64 (0 : Int)) ∧ (True ∧ (True ∧ (True ∧ (True ∧ ((I64 (1099511627776 : Int)) ∧ ((I64 (0 : Int)) ∧ ((awakeVC_13 ) ∧ ((I64 (1099511627776 : Int)) ∧ ((I64 (1 : Int)) ∧ ((awakeVC_11 ) ∧ ((I64 (1099511627776 : Int)) ∧ ((I64 (0 : Int)) ∧ (True ∧ (True ∧ (True ∧ (True ∧ ((I64 (1 : Int)) ∧ ((((0 : Int) ≤ (1 : Int)) ∧ ((0 : Int) ≤ (0 : Int))) ∧ ((I64 (1099511627774 : Int)) ∧ ((I64 (3 : Int)) ∧ (((awakeVC_1 ) ∧ ((awakeVC_1 ) ∧ ((awakeVC_1 ) ∧ ((awakeVC_3 ) ∧ True)))) ∧ ((I64 (1099511627774 : Int)) ∧ ((I64 (2 : Int)) ∧ ((awakeVC_11 ) ∧ ((I64 (1099511627776 : Int)) ∧ ((I64 (0 : Int)) ∧ (True ∧ (True ∧ (True ∧ (True ∧ ((I64 (1099511627776 : Int)) ∧ ((I64 (0 : Int)) ∧ (((awakeVC_1 ) ∧ ((awakeVC_1 ) ∧ ((awakeVC_1 ) ∧ ((awakeVC_4 ) ∧ True)))) ∧ ((I64 (1099511627775 : Int)) ∧ ((I64 (1 : Int)) ∧ ((awakeVC_11 ) ∧ ((I64 (1099511627776 : Int)) ∧ ((I64 (0 : Int)) ∧ (True ∧ (True ∧ (True ∧ (True ∧ ((I64 (2 : Int)) ∧ (awakeVC_10 ))))))))))))))))))))))))))))))))))))))))))))))))))))))
def awakeVC  : Prop :=
  ((I64 (2 : Int)) ∧ ((((0 : Int) ≤ (0 : Int)) ∧ ((I64 (0 : Int)) ∧ ((I64 (0 : Int)) ∧ ((I64 (28 : Int)) ∧ (((0 : Int) ≤ (0 : Int)) ∧ ((I64 (2 : Int)) ∧ ((I64 (2 : Int)) ∧ ((awakeVC_5 ) ∧ ((True ∧ ((True ∧ (((awakeVC_6 ) ∧ ((I64 (1099511627776 : Int)) ∧ ((I64 (2 : Int)) ∧ ((awakeVC_12 ) ∧ ((I64 (1099511627776 : Int)) ∧ ((I64 (2 : Int)) ∧ ((awakeVC_11 ) ∧ ((I64 (1099511627776 : Int)) ∧ ((I64 (0 : Int)) ∧ (True ∧ (True ∧ (True ∧ (True ∧ ((I64 (1099511627776 : Int)) ∧ ((I64 (0 : Int)) ∧ ((awakeVC_13 ) ∧ ((I64 (1099511627776 : Int)) ∧ ((I64 (1 : Int)) ∧ ((awakeVC_11 ) ∧ ((I64 (1099511627776 : Int)) ∧ ((I64 (0 : Int)) ∧ (True ∧ (True ∧ (True ∧ (True ∧ ((I64 (1 : Int)) ∧ ((((0 : Int) ≤ (1 : Int)) ∧ ((0 : Int) ≤ (0 : Int))) ∧ ((I64 (1099511627774 : Int)) ∧ ((I64 (3 : Int)) ∧ (((awakeVC_1 ) ∧ ((awakeVC_1 ) ∧ ((awakeVC_1 ) ∧ ((awakeVC_3 ) ∧ True)))) ∧ ((I64 (1099511627774 : Int)) ∧ ((I64 (2 : Int)) ∧ ((awakeVC_11 ) ∧ ((I64 (1099511627776 : Int)) ∧ ((I64 (0 : Int)) ∧ (True ∧ (True ∧ (True ∧ (True ∧ ((I64 (1099511627776 : Int)) ∧ ((I64 (0 : Int)) ∧ (((awakeVC_1 ) ∧ ((awakeVC_1 ) ∧ ((awakeVC_1 ) ∧ ((awakeVC_4 ) ∧ True)))) ∧ ((I64 (1099511627775 : Int)) ∧ ((I64 (1 : Int)) ∧ ((awakeVC_11 ) ∧ ((I64 (1099511627776 : Int)) ∧ ((I64 (0 : Int)) ∧ (True ∧ (True ∧ (True ∧ (True ∧ ((I64 (2 : Int)) ∧ (True ∧ (awakeVC_10 )))))))))))))))))))))))))))))))))))))))))))))))))))))) ∧ (awakeVC_7 ))) ∧ (True ∧ (awakeVC_7 )))) ∧ ((awakeVC_5 ) ∧ (True ∧ (awakeVC_7 )))))))))))) ∧ (((awakeVC_8 ) ∧ ((awakeVC_9 ) ∧ (((AV.lit (Value.string (@ByteArray.mk (@List.toArray UInt8 [(49 : UInt8)])))) = (AV.lit (Value.string (@ByteArray.mk (@List.toArray UInt8 [(49 : UInt8)]))))) ∧
 ((awakeVC_8 ) ∧ True)))) ∧ (((0 : Int) ≤ (0 : Int)) ∧ ((I64 (0 : Int)) ∧ ((I64 (0 : Int)) ∧ ((I64 (28 : Int)) ∧ (((0 : Int) ≤ (0 : Int)) ∧ ((I64 (2 : Int)) ∧ ((I64 (2 : Int)) ∧ ((awakeVC_5 ) ∧ (True ∧ (awakeVC_7 )))))))))))))
theorem awakeVC_ok  : awakeVC  = awakeVC_wp  := by kernel_rfl
def refBetweenVC_wp (a0 a1 a2 a3 a4 b0 b1 b2 b3 b4 : Int) (r : Cst) : Prop := wpF Try.prog [] tt (fun _ _ _ _ => []) 200 5 20 [.agg [i64 a0, i64 a1, i64 a2, i64 a3, i64 a4], .agg [i64 b0, i64 b1, i64 b2, i64 b3, i64 b4]] (hO 0 []) (fun v h' => endP 0 r.av [] v h')
def refBetweenVC (a0 a1 a2 a3 a4 b0 b1 b2 b3 b4 : Int) (r : Cst) : Prop :=
  ((I64 ((@imax (0 : Int) b0) - (@imax (0 : Int) a0))) ∧ ((((AV.lit (Value.int IntKind.i64 b2)) = (AV.lit (Value.int IntKind.i64 b2))) ∧ (((AV.lit (Value.int IntKind.i64 a2)) = (AV.lit (Value.int IntKind.i64 a2))) ∧ (((AV.lit (Value.int IntKind.i64 b1)) = (AV.lit (Value.int IntKind.i64 b1))) ∧ (((AV.lit (Value.int IntKind.i64 a1)) = (AV.lit (Value.int IntKind.i64 a1))) ∧ True)))) ∧ ((I64 ((@imax (0 : Int) b1) - (@imax (0 : Int) a1))) ∧ ((((AV.lit (Value.int IntKind.i64 b2)) = (AV.lit (Value.int IntKind.i64 b2))) ∧ (((AV.lit (Value.int IntKind.i64 a2)) = (AV.lit (Value.int IntKind.i64 a2))) ∧ True)) ∧ ((I64 ((@imax (0 : Int) b2) - (@imax (0 : Int) a2))) ∧ (True ∧ (True ∧ (((r.s0 = (0 : Int)) ∧ ((r.s1 = (@imax (0 : Int) ((@imax (0 : Int) b0) - (@imax (0 : Int) a0)))) ∧ ((r.s2 = (@imax (0 : Int) ((@imax (0 : Int) b1) - (@imax (0 : Int) a1)))) ∧ ((r.s3 = (@imax (0 : Int) ((@imax (0 : Int) b2) - (@imax (0 : Int) a2)))) ∧ ((r.s4 = (0 : Int)) ∧ ((r.s5 = (0 : Int)) ∧ True)))))) ∧ True))))))))
def betweenVC_wp (a0 a1 a2 a3 a4 b0 b1 b2 b3 b4 : Int) (r : Cst) : Prop := wpF Try.prog [] tt (fun _ _ _ _ => []) 200 5 19 [.agg [i64 a0, i64 a1, i64 a2, i64 a3, i64 a4], .agg [i64 b0, i64 b1, i64 b2, i64 b3, i64 b4]] (hO 0 []) (fun v h' => endP 0 r.av [] v h')
def betweenVC (a0 a1 a2 a3 a4 b0 b1 b2 b3 b4 : Int) (r : Cst) : Prop :=
  ((I64 ((@imax b0 (0 : Int)) - (@imax a0 (0 : Int)))) ∧ ((((AV.lit (Value.int IntKind.i64 a2)) = (AV.lit (Value.int IntKind.i64 a2))) ∧ (((AV.lit (Value.int IntKind.i64 b2)) = (AV.lit (Value.int IntKind.i64 b2))) ∧ (((AV.lit (Value.int IntKind.i64 a1)) = (AV.lit (Value.int IntKind.i64 a1))) ∧ (((AV.lit (Value.int IntKind.i64 b1)) = (AV.lit (Value.int IntKind.i64 b1))) ∧ True)))) ∧ ((I64 ((@imax b1 (0 : Int)) - (@imax a1 (0 : Int)))) ∧ ((((AV.lit (Value.int IntKind.i64 a2)) = (AV.lit (Value.int IntKind.i64 a2))) ∧ (((AV.lit (Value.int IntKind.i64 b2)) = (AV.lit (Value.int IntKind.i64 b2))) ∧ True)) ∧ ((I64 ((@imax b2 (0 : Int)) - (@imax a2 (0 : Int)))) ∧ (True ∧ (True ∧ (((r.s0 = (0 : Int)) ∧ ((r.s1 = (@imax ((@imax b0 (0 : Int)) - (@imax a0 (0 : Int))) (0 : Int))) ∧ ((r.s2 = (@imax ((@imax b1 (0 : Int)) - (@imax a1 (0 : Int))) (0 : Int))) ∧ ((r.s3 = (@imax ((@imax b2 (0 : Int)) - (@imax a2 (0 : Int))) (0 : Int))) ∧ ((r.s4 = (0 : Int)) ∧ ((r.s5 = (0 : Int)) ∧ True)))))) ∧ True))))))))
def refSumVC_wp (c : Nat → Cst) (n : Nat) (r : Cst) : Prop := wpF Try.prog [] tt (anRefSum c n) 200 5 21 [.slR 0 0 6 n] (hO 1 [.ro (rowC c n)]) (fun v h' => endP 1 r.av [.ro (rowC c n)] v h')
def refSumVC (c : Nat → Cst) (n : Nat) (r : Cst) : Prop :=
  ((∃ (s : Nat), ((s ≤ n) ∧ (True ∧ (((((s : Nat) : Int) = (0 : Int)) ∧ True) ∧ ((((@Cst.s0 (@Cst.sum c s)) = (0 : Int)) ∧ (((@Cst.s1 (@Cst.sum c s)) = (0 : Int)) ∧ (((@Cst.s2 (@Cst.sum c s)) = (0 : Int)) ∧ (((@Cst.s3 (@Cst.sum c s)) = (0 : Int)) ∧ (((@Cst.s4 (@Cst.sum c s)) = (0 : Int)) ∧ (((@Cst.s5 (@Cst.sum c s)) = (0 : Int)) ∧ True)))))) ∧ ((((0 : Int) = (0 : Int)) ∧ (((0 : Int) = (0 : Int)) ∧ (((0 : Int) = (0 : Int)) ∧ (((0 : Int) = (0 : Int)) ∧ (((0 : Int) = (0 : Int)) ∧ (((0 : Int) = (0 : Int)) ∧ True)))))) ∧ ((((@rowC c n) = (@rowC c n)) ∧ (Bool.true = Bool.true)) ∧ True))))))) ∧ ((∀ (s : Nat), ((s ≤ n) → (cP (decide (((s : Nat) : Int) < ((n : Nat) : Int))) ((((0 : Int) ≤ ((s : Nat) : Int)) ∧ (((s : Nat) : Int) < ((n : Nat) : Int))) ∧ (((0 + s) < n) ∧ ((I64 ((@imax (0 : Int) (imin (@Cst.s0 (@Cst.sum c s)) (1099511627776 : Int))) + (@imax (0 : Int) (imin (@Cst.s0 (c (0 + s))) (1099511627776 : Int))))) ∧ ((((AV.lit (Value.int IntKind.i64 (@Cst.s5 (c (0 + s))))) = (AV.lit (Value.int IntKind.i64 (@Cst.s5 (c (0 + s)))))) ∧ (((AV.lit (Value.int IntKind.i64 (@Cst.s5 (@Cst.sum c s)))) = (AV.lit (Value.int IntKind.i64 (@Cst.s5 (@Cst.sum c s))))) ∧ (((AV.lit (Value.int IntKind.i64 (@Cst.s4 (c (0 + s))))) = (AV.lit (Value.int IntKind.i64 (@Cst.s4 (c (0 + s)))))) ∧ (((AV.lit (Value.int IntKind.i64 (@Cst.s4 (@Cst.sum c s)))) = (AV.lit (Value.int IntKind.i64 (@Cst.s4 (@Cst.sum c s))))) ∧ (((AV.lit (Value.int IntKind.i64 (@Cst.s3 (c (0 + s))))) = (AV.lit (Value.int IntKind.i64 (@Cst.s3 (c (0 + s)))))) ∧
 (((AV.lit (Value.int IntKind.i64 (@Cst.s3 (@Cst.sum c s)))) = (AV.lit (Value.int IntKind.i64 (@Cst.s3 (@Cst.sum c s))))) ∧ (((AV.lit (Value.int IntKind.i64 (@Cst.s2 (c (0 + s))))) = (AV.lit (Value.int IntKind.i64 (@Cst.s2 (c (0 + s)))))) ∧ (((AV.lit (Value.int IntKind.i64 (@Cst.s2 (@Cst.sum c s)))) = (AV.lit (Value.int IntKind.i64 (@Cst.s2 (@Cst.sum c s))))) ∧ (((AV.lit (Value.int IntKind.i64 (@Cst.s1 (c (0 + s))))) = (AV.lit (Value.int IntKind.i64 (@Cst.s1 (c (0 + s)))))) ∧ (((AV.lit (Value.int IntKind.i64 (@Cst.s1 (@Cst.sum c s)))) = (AV.lit (Value.int IntKind.i64 (@Cst.s1 (@Cst.sum c s))))) ∧ True)))))))))) ∧ ((I64 ((@imax (0 : Int) (imin (@Cst.s1 (@Cst.sum c s)) (1099511627776 : Int))) + (@imax (0 : Int) (imin (@Cst.s1 (c (0 + s))) (1099511627776 : Int))))) ∧ ((((AV.lit (Value.int IntKind.i64 (@Cst.s5 (c (0 + s))))) = (AV.lit (Value.int IntKind.i64 (@Cst.s5 (c (0 + s)))))) ∧ (((AV.lit (Value.int IntKind.i64 (@Cst.s5 (@Cst.sum c s)))) = (AV.lit (Value.int IntKind.i64 (@Cst.s5 (@Cst.sum c s))))) ∧ (((AV.lit (Value.int IntKind.i64 (@Cst.s4 (c (0 + s))))) = (AV.lit (Value.int IntKind.i64 (@Cst.s4 (c (0 + s)))))) ∧ (((AV.lit (Value.int IntKind.i64 (@Cst.s4 (@Cst.sum c s)))) = (AV.lit (Value.int IntKind.i64 (@Cst.s4 (@Cst.sum c s))))) ∧ (((AV.lit (Value.int IntKind.i64 (@Cst.s3 (c (0 + s))))) = (AV.lit (Value.int IntKind.i64 (@Cst.s3 (c (0 + s)))))) ∧ (((AV.lit (Value.int IntKind.i64 (@Cst.s3 (@Cst.sum c s)))) = (AV.lit (Value.int IntKind.i64 (@Cst.s3 (@Cst.sum c s))))) ∧ (((AV.lit (Value.int IntKind.i64 (@Cst.s2 (c (0 + s))))) = (AV.lit (Value.int IntKind.i64 (@Cst.s2 (c (0 + s)))))) ∧
 (((AV.lit (Value.int IntKind.i64 (@Cst.s2 (@Cst.sum c s)))) = (AV.lit (Value.int IntKind.i64 (@Cst.s2 (@Cst.sum c s))))) ∧ True)))))))) ∧ ((I64 ((@imax (0 : Int) (imin (@Cst.s2 (@Cst.sum c s)) (1099511627776 : Int))) + (@imax (0 : Int) (imin (@Cst.s2 (c (0 + s))) (1099511627776 : Int))))) ∧ ((((AV.lit (Value.int IntKind.i64 (@Cst.s5 (c (0 + s))))) = (AV.lit (Value.int IntKind.i64 (@Cst.s5 (c (0 + s)))))) ∧ (((AV.lit (Value.int IntKind.i64 (@Cst.s5 (@Cst.sum c s)))) = (AV.lit (Value.int IntKind.i64 (@Cst.s5 (@Cst.sum c s))))) ∧ (((AV.lit (Value.int IntKind.i64 (@Cst.s4 (c (0 + s))))) = (AV.lit (Value.int IntKind.i64 (@Cst.s4 (c (0 + s)))))) ∧ (((AV.lit (Value.int IntKind.i64 (@Cst.s4 (@Cst.sum c s)))) = (AV.lit (Value.int IntKind.i64 (@Cst.s4 (@Cst.sum c s))))) ∧ (((AV.lit (Value.int IntKind.i64 (@Cst.s3 (c (0 + s))))) = (AV.lit (Value.int IntKind.i64 (@Cst.s3 (c (0 + s)))))) ∧ (((AV.lit (Value.int IntKind.i64 (@Cst.s3 (@Cst.sum c s)))) = (AV.lit (Value.int IntKind.i64 (@Cst.s3 (@Cst.sum c s))))) ∧ True)))))) ∧ ((I64 ((@imax (0 : Int) (imin (@Cst.s3 (@Cst.sum c s)) (1099511627776 : Int))) + (@imax (0 : Int) (imin (@Cst.s3 (c (0 + s))) (1099511627776 : Int))))) ∧ ((((AV.lit (Value.int IntKind.i64 (@Cst.s5 (c (0 + s))))) = (AV.lit (Value.int IntKind.i64 (@Cst.s5 (c (0 + s)))))) ∧ (((AV.lit (Value.int IntKind.i64 (@Cst.s5 (@Cst.sum c s)))) = (AV.lit (Value.int IntKind.i64 (@Cst.s5 (@Cst.sum c s))))) ∧ (((AV.lit (Value.int IntKind.i64 (@Cst.s4 (c (0 + s))))) = (AV.lit (Value.int IntKind.i64 (@Cst.s4 (c (0 + s)))))) ∧
 (((AV.lit (Value.int IntKind.i64 (@Cst.s4 (@Cst.sum c s)))) = (AV.lit (Value.int IntKind.i64 (@Cst.s4 (@Cst.sum c s))))) ∧ True)))) ∧ ((I64 ((@imax (0 : Int) (imin (@Cst.s4 (@Cst.sum c s)) (1099511627776 : Int))) + (@imax (0 : Int) (imin (@Cst.s4 (c (0 + s))) (1099511627776 : Int))))) ∧ ((((AV.lit (Value.int IntKind.i64 (@Cst.s5 (c (0 + s))))) = (AV.lit (Value.int IntKind.i64 (@Cst.s5 (c (0 + s)))))) ∧ (((AV.lit (Value.int IntKind.i64 (@Cst.s5 (@Cst.sum c s)))) = (AV.lit (Value.int IntKind.i64 (@Cst.s5 (@Cst.sum c s))))) ∧ True)) ∧ ((I64 ((@imax (0 : Int) (imin (@Cst.s5 (@Cst.sum c s)) (1099511627776 : Int))) + (@imax (0 : Int) (imin (@Cst.s5 (c (0 + s))) (1099511627776 : Int))))) ∧ (True ∧ (True ∧ (True ∧ (True ∧ ((I64 (((s : Nat) : Int) + (1 : Int))) ∧ (∃ (s_1 : Nat), ((s_1 ≤ n) ∧ (((n - s_1) < (n - s)) ∧ (((((s_1 : Nat) : Int) = (((s : Nat) : Int) + (1 : Int))) ∧ True) ∧ ((((@Cst.s0 (@Cst.sum c s_1)) = (imin ((@imax (0 : Int) (imin (@Cst.s0 (@Cst.sum c s)) (1099511627776 : Int))) + (@imax (0 : Int) (imin (@Cst.s0 (c (0 + s))) (1099511627776 : Int)))) (1099511627776 : Int))) ∧ (((@Cst.s1 (@Cst.sum c s_1)) = (imin ((@imax (0 : Int) (imin (@Cst.s1 (@Cst.sum c s)) (1099511627776 : Int))) + (@imax (0 : Int) (imin (@Cst.s1 (c (0 + s))) (1099511627776 : Int)))) (1099511627776 : Int))) ∧ (((@Cst.s2 (@Cst.sum c s_1)) = (imin ((@imax (0 : Int) (imin (@Cst.s2 (@Cst.sum c s)) (1099511627776 : Int))) + (@imax (0 : Int) (imin (@Cst.s2 (c (0 + s))) (1099511627776 : Int)))) (1099511627776 : Int))) ∧
 (((@Cst.s3 (@Cst.sum c s_1)) = (imin ((@imax (0 : Int) (imin (@Cst.s3 (@Cst.sum c s)) (1099511627776 : Int))) + (@imax (0 : Int) (imin (@Cst.s3 (c (0 + s))) (1099511627776 : Int)))) (1099511627776 : Int))) ∧ (((@Cst.s4 (@Cst.sum c s_1)) = (imin ((@imax (0 : Int) (imin (@Cst.s4 (@Cst.sum c s)) (1099511627776 : Int))) + (@imax (0 : Int) (imin (@Cst.s4 (c (0 + s))) (1099511627776 : Int)))) (1099511627776 : Int))) ∧ (((@Cst.s5 (@Cst.sum c s_1)) = (imin ((@imax (0 : Int) (imin (@Cst.s5 (@Cst.sum c s)) (1099511627776 : Int))) + (@imax (0 : Int) (imin (@Cst.s5 (c (0 + s))) (1099511627776 : Int)))) (1099511627776 : Int))) ∧ True)))))) ∧ ((((0 : Int) = (0 : Int)) ∧ (((0 : Int) = (0 : Int)) ∧ (((0 : Int) = (0 : Int)) ∧ (((0 : Int) = (0 : Int)) ∧ (((0 : Int) = (0 : Int)) ∧ (((0 : Int) = (0 : Int)) ∧ True)))))) ∧ ((((@rowC c n) = (@rowC c n)) ∧ (Bool.true = Bool.true)) ∧ True))))))))))))))))))))))))) (((r.s0 = (@Cst.s0 (@Cst.sum c s))) ∧ ((r.s1 = (@Cst.s1 (@Cst.sum c s))) ∧ ((r.s2 = (@Cst.s2 (@Cst.sum c s))) ∧ ((r.s3 = (@Cst.s3 (@Cst.sum c s))) ∧ ((r.s4 = (@Cst.s4 (@Cst.sum c s))) ∧ ((r.s5 = (@Cst.s5 (@Cst.sum c s))) ∧ True)))))) ∧ ((((@rowC c n) = (@rowC c n)) ∧ (Bool.true = Bool.true)) ∧ True))))) ∧ True))
end Go.Proofs.Ytjndgegfonhhfaa
end
section
/- Sums, told of any memory; a program that is awake. -/
namespace Go.Proofs.Ytjndgegfonhhfaa
open Go SE
theorem awake_true : awakeVC := by
  unfold awakeVC
  simp only [awakeVC_1, awakeVC_2, awakeVC_3, awakeVC_4, awakeVC_8, awakeVC_9, awakeVC_5, awakeVC_6, awakeVC_11, awakeVC_12, awakeVC_13, awakeVC_10, awakeVC_7]
  repeat' (first | exact trivial | exact rfl | exact Int.NonNeg.mk _ | (refine ⟨?_, ?_⟩) | decide)
theorem awake_sp : Sp Try.prog 11 [] (hO 0 []) (fun v h' => v = .lit (.bool true) ∧ h' = hO 0 []) := by
  have h := awake_true
  rw [awakeVC_ok] at h
  exact sp_endk tt_ok mixed TblOk.nil (fun _ _ _ _ => []) 400 20 0 0 rfl rfl h
def awakeT : WTr := fun args h K => match args with
  | [] => K (.lit (.bool true)) h
  | _ => False
theorem awakeT_ok (args : List AV) (h : Heap) (K : AV → Heap → Prop) (hq : awakeT args h K) : Sp Try.prog 11 args h K := by
  unfold awakeT at hq
  split at hq
  · exact (sp_plain h awake_sp (fun _ _ hh => hh.1) rfl rfl).mono fun v h' ⟨e1, e2⟩ => by subst e1 e2; exact hq
  · exact hq.elim
theorem Cst.litsOnly (x : Cst) : litsOnly x.av = true := rfl

/-- A cost of these cells. -/
def parseC : List Value → Option Cst
  | [.int .i64 a, .int .i64 b, .int .i64 c, .int .i64 d, .int .i64 e, .int .i64 f] => some ⟨a, b, c, d, e, f⟩
  | _ => none
theorem parseC_ok {l : List Value} {x : Cst} (h : parseC l = some x) : l = x.cells := by
  unfold parseC at h
  split at h
  · cases h; rfl
  · cases h
def parseL : List (List Value) → Option (List Cst)
  | [] => some []
  | l :: r => match parseC l with
    | some x => match parseL r with
      | some xs => some (x :: xs)
      | none => none
    | none => none
theorem parseL_ok : ∀ {L : List (List Value)} {xs : List Cst}, parseL L = some xs → L.length = xs.length ∧ ∀ k, k < xs.length → L.getD k [] = (xs.getD k Cst.zero).cells
  | [], xs, h => by simp only [parseL] at h; cases h; exact ⟨rfl, fun k hk => by simp at hk⟩
  | l :: r, xs, h => by
    simp only [parseL] at h
    split at h
    · rename_i x hx
      split at h
      · rename_i ys hy
        cases h
        obtain ⟨g1, g2⟩ := parseL_ok hy
        refine ⟨by simp [g1], fun k hk => ?_⟩
        cases k with
        | zero => simpa using parseC_ok hx
        | succ k => simpa using g2 k (by simpa using hk)
      · cases h
    · cases h
def sumFrom (x : Cst) : List Cst → Cst
  | [] => x
  | y :: r => sumFrom (Cst.add x y) r
theorem sum_list : ∀ (r l : List Cst) , sumFrom (Cst.sum (fun k => (l ++ r).getD k Cst.zero) l.length) r = Cst.sum (fun k => (l ++ r).getD k Cst.zero) (l ++ r).length
  | [], l => by simp [sumFrom]
  | y :: r, l => by
    have := sum_list r (l ++ [y])
    simp only [List.append_assoc, List.singleton_append, List.length_append, List.length_cons, List.length_nil] at this
    simp only [sumFrom, List.length_append, List.length_cons]
    rw [← this]
    simp only [Nat.zero_add, Cst.sum]
    congr 2
    simp
/-- The sum of what is given. -/
def sumT : WTr := fun args h K => match args with
  | [x] => vView h x 6 fun
    | .few L => match parseL L with
      | some cs => cs.length < 4611686018427387904 ∧ K (sumFrom Cst.zero cs).av h
      | none => False
    | .many n g => n < 4611686018427387904 ∧ ∃ c : Nat → Cst, (∀ k, k < n → g k = (c k).cells) ∧ K (Cst.sum c n).av h
  | _ => False
theorem sumT_of {f : FuncId} (hf : ∀ (c : Nat → Cst) (n : Nat), n < 4611686018427387904 → Sp Try.prog f [.slR 0 0 6 n] (hO 1 [.ro (rowC c n)]) (fun v h' => v = (Cst.sum c n).av ∧ h' = hO 1 [.ro (rowC c n)]))
    (args : List AV) (h : Heap) (K : AV → Heap → Prop) (hq : sumT args h K) : Sp Try.prog f args h K := by
  unfold sumT at hq
  split at hq
  · refine sp_slice (hf (fun _ => Cst.zero) 0 (by omega)).1 (by omega) hq fun e he => ?_
    split at he
    · rename_i L
      split at he
      · rename_i cs hcs
        obtain ⟨hl, hK⟩ := he
        obtain ⟨g1, g2⟩ := parseL_ok hcs
        refine ⟨cs.length, fun k => (cs.getD k Cst.zero).cells, (Cst.sum (fun k => cs.getD k Cst.zero) cs.length).av, g1, g2, rfl, ?_, (hf _ _ hl).mono fun _ _ hh => hh.1⟩
        have := sum_list cs []
        simp only [List.nil_append, List.length_nil, Cst.sum] at this
        rw [← this]; exact hK
      · exact he.elim
    · rename_i n g
      obtain ⟨hl, c, hc, hK⟩ := he
      exact ⟨n, fun k => (c k).cells, (Cst.sum c n).av, rfl, hc, rfl, hK, (hf c n hl).mono fun _ _ hh => hh.1⟩
  · exact hq.elim
def tbl : WTbl := [(15, sumT), (21, sumT), (11, awakeT)]
end Go.Proofs.Ytjndgegfonhhfaa
end
section
/- Costs of calls: contracts. -/
namespace Go.Proofs.Ytjndgegfonhhfaa
open Go SE
noncomputable section
def tblN : WTbl := [(69, ctrT spanC), (75, ctrT spanC), (70, ctrT needC), (76, ctrT needC)]
theorem tblN_ok : TblOk Try.prog tblN := .cons (ctrT_ok span_ok) (.cons (ctrT_ok rspan_ok) (.cons (ctrT_ok need_ok) (.cons (ctrT_ok rneed_ok) .nil)))
def writeM (n : Int) : Cst := ⟨linesM n + 1, linesM n + 1, 0, 0, linesM n, 0⟩
def writeC : Ctr := det Int (fun n => [i64 n]) 0 (fun _ => []) (fun _ => True) (fun n => (writeM n).av) 0 (fun _ => [])
/-- A store and a part of a call. -/
structure SP where
  s : Shf
  kind : Int
  key : BA
  value : BA
  to : BA
  e : Int
def SP.ok (x : SP) : Prop := x.s.small ∧ x.key.size ≤ 1500 ∧ x.value.size ≤ 1500 ∧ (x.e = 0 ∨ x.e = 1)
def SP.av (x : SP) : AV := .agg [i64 x.kind, str x.key, str x.value, str x.to, .any]
def SP.pt (x : SP) : Cst := partM x.s x.kind x.key x.value x.e
def putC : Ctr := det SP (fun x => [x.s.av 0 1, x.av]) 2 (fun x => x.s.os) (fun x => Hd x.ok) (fun x => (partM x.s 2 x.key x.value 0).av) 2 (fun x => x.s.os)
def delC : Ctr := det SK (fun x => [x.s.av 0 1, str x.key]) 2 (fun x => x.s.os) (fun x => Hd x.ok) (fun x => (partM x.s 3 x.key x.key 0).av) 2 (fun x => x.s.os)
def partC : Ctr := det SP (fun x => [x.s.av 0 1, x.av, i64 x.e]) 2 (fun x => x.s.os) (fun x => Hd x.ok) (fun x => x.pt.av) 2 (fun x => x.s.os)
/-- A store and a group. -/
structure SG where
  s : Shf
  g : Nat → Mem
  n : Nat
def SG.os (x : SG) : List AObj := x.s.os ++ [.ro (.row 5 x.n (fun k => (x.g k).cells) [])]
def SG.ok (x : SG) : Prop := x.s.small ∧ x.n ≤ 3 ∧ ∀ k, k < x.n → (x.g k).small ∧ groupedM (x.g k).kind = true
def groupC : Ctr := det SG (fun x => [x.s.av 0 1, .slR 2 0 5 x.n]) 3 (fun x => x.os) (fun x => Hd x.ok) (fun x => (groupTo x.s x.g x.n).av) 3 (fun x => x.os)
def anGroup (x : SG) : FuncId → Anns := fun f => bif Nat.beq f 42 then (fun b _ _ => bif Nat.beq b 0 then [{ σ := Nat, fr := fun i => [(11, i64 i)], ob := fun i => [(5, some (.cells 33 (.av (groupTo x.s x.g i).avs)))], inv := fun i => i ≤ x.n, meas := fun i => x.n - i }] else []) else fun _ _ _ => []
def tblW : WTbl := [(40, ctrT writeC), (77, ctrT writeC), (35, ctrT findC), (46, ctrT findC), (36, ctrT getC), (45, ctrT getC), (15, sumT)]
end
end Go.Proofs.Ytjndgegfonhhfaa
end
section
/- What is asked of costs of calls. -/
namespace Go.Proofs.Ytjndgegfonhhfaa
open Go SE
def writeVC_wp (x : Int) : Prop := wpF Try.prog tblN tt noAn 200 5 40 (writeC.args x) (hO writeC.k (writeC.os x)) (fun v h' => endsP writeC.k x v h' writeC.outs)
def writeVC (x : Int) : Prop :=
  (∃ (x_1 : Int), (True ∧ (((x_1 = x) ∧ True) ∧ (True ∧ (∀ (y : Unit), (True → (∃ (x_2 : Int), (True ∧ (((x_2 = (@needM x_1)) ∧ True) ∧ (True ∧ (∀ (y_1 : Unit), (True → ((I64 ((@spanM x_2) + (1 : Int))) ∧ ((I64 ((@spanM x_2) + (1 : Int))) ∧ (∃ (y_2 : Unit), (True ∧ (((((@linesM x) + (1 : Int)) = ((@spanM x_2) + (1 : Int))) ∧ ((((@linesM x) + (1 : Int)) = ((@spanM x_2) + (1 : Int))) ∧ (((0 : Int) = (0 : Int)) ∧ (((0 : Int) = (0 : Int)) ∧ (((@linesM x) = (@spanM x_2)) ∧ (((0 : Int) = (0 : Int)) ∧ True)))))) ∧ True)))))))))))))))))
theorem writeVC_ok (x : Int) : writeVC x = writeVC_wp x := by kernel_rfl
def rwriteVC_wp (x : Int) : Prop := wpF Try.prog tblN tt noAn 200 5 77 (writeC.args x) (hO writeC.k (writeC.os x)) (fun v h' => endsP writeC.k x v h' writeC.outs)
def rwriteVC (x : Int) : Prop :=
  (∃ (x_1 : Int), (True ∧ (((x_1 = x) ∧ True) ∧ (True ∧ (∀ (y : Unit), (True → (∃ (x_2 : Int), (True ∧ (((x_2 = (@needM x_1)) ∧ True) ∧ (True ∧ (∀ (y_1 : Unit), (True → ((I64 ((@spanM x_2) + (1 : Int))) ∧ (∃ (x_3 : Int), (True ∧ (((x_3 = x) ∧ True) ∧ (True ∧ (∀ (y_2 : Unit), (True → (∃ (x_4 : Int), (True ∧ (((x_4 = (@needM x_3)) ∧ True) ∧ (True ∧ (∀ (y_3 : Unit), (True → ((I64 ((@spanM x_4) + (1 : Int))) ∧ (∃ (x_5 : Int), (True ∧ (((x_5 = x) ∧ True) ∧ (True ∧ (∀ (y_4 : Unit), (True → (∃ (x_6 : Int), (True ∧ (((x_6 = (@needM x_5)) ∧ True) ∧ (True ∧ (∀ (y_5 : Unit), (True → (∃ (y_6 : Unit), (True ∧ (((((@linesM x) + (1 : Int)) = ((@spanM x_2) + (1 : Int))) ∧ ((((@linesM x) + (1 : Int)) = ((@spanM x_4) + (1 : Int))) ∧ (((0 : Int) = (0 : Int)) ∧ (((0 : Int) = (0 : Int)) ∧ (((@linesM x) = (@spanM x_6)) ∧ (((0 : Int) = (0 : Int)) ∧ True)))))) ∧ True)))))))))))))))))))))))))))))))))))))))))
theorem rwriteVC_ok (x : Int) : rwriteVC x = rwriteVC_wp x := by kernel_rfl
def putVC_wp (x : SP) : Prop := wpF Try.prog tblW tt noAn 200 5 38 (putC.args x) (hO putC.k (putC.os x)) (fun v h' => endsP putC.k x v h' putC.outs)
def putVC_6 (x : SP) (x_1 : Int) (x_2 : @SK) : Prop := (((((@linesM ((((@ByteArray.size (@SP.key x)) + (@ByteArray.size (@SP.value x))) : Nat) : Int)) + (1 : Int)) + (@findM (@SP.s x) (@SP.key x))) + (0 : Int)) = (@Cst.heldM (@Cst.heldM (0 : Int) ((@linesM x_1) + (1 : Int))) (@findM x_2.s x_2.key)))
def putVC_8 (x : SP) (x_1 : Int) : Prop := (((@linesM ((((@ByteArray.size (@SP.key x)) + (@ByteArray.size (@SP.value x))) : Nat) : Int)) + (1 : Int)) = (@Cst.heldM (@Cst.heldM (0 : Int) ((@linesM x_1) + (1 : Int))) (0 : Int)))
def putVC_9 (x : SP) : Prop := ((((rowP (@SP.s x)) = (rowP (@SP.s x))) ∧ (Bool.true = Bool.true)) ∧ ((((@rowQ (@SP.s x)) = (@rowQ (@SP.s x))) ∧ (Bool.true = Bool.true)) ∧ True))
def putVC_11 (x : SP) (x_1 : Int) : Prop := ((@linesM ((((@ByteArray.size (@SP.key x)) + (@ByteArray.size (@SP.value x))) : Nat) : Int)) = (@Cst.heldM (@Cst.heldM (0 : Int) (@linesM x_1)) (0 : Int)))
def putVC_1 (x : SP) (x_1 : Int) (x_2 : @SK) : Prop := (True ∧ (True ∧ (∃ (x_3 : @SK), ((Hd x_3.ok) ∧ (((((0 = 0) ∧ (x_3.s.n = (@Shf.n (@SP.s x)))) ∧ (((0 = 0) ∧ (x_3.s.m = (@Shf.m (@SP.s x)))) ∧ True)) ∧ ((x_3.key = (@SP.key x)) ∧ True)) ∧ ((((x_3.s.n = (@Shf.n (@SP.s x))) ∧ (∀ (q : Nat), ((q < x_3.s.n) → ([(Value.string (@Shf.pk x_3.s q)), (Value.string (@Shf.pv x_3.s q))] = [(Value.string (@Shf.pk (@SP.s x) q)), (Value.string (@Shf.pv (@SP.s x) q))])))) ∧ (((x_3.s.m = (@Shf.m (@SP.s x))) ∧ (∀ (q : Nat), ((q < x_3.s.m) → ([(Value.string (@Shf.qv x_3.s q))] = [(Value.string (@Shf.qv (@SP.s x) q))])))) ∧ True)) ∧ (∀ (y_2 : Unit), (True → (cP (@hadM x_3.s x_3.key) (∃ (y_3 : Unit), (True ∧ (((putVC_6 x x_1 x_2) ∧ ((putVC_8 x x_1) ∧ (((0 : Int) = (0 : Int)) ∧ (((0 : Int) = (0 : Int)) ∧ ((putVC_11 x x_1) ∧ (((@b2i (@hadM (@SP.s x) (@SP.key x))) = (1 : Int)) ∧ True)))))) ∧ (putVC_9 x)))) (∃ (y_3 : Unit), (True ∧ (((putVC_6 x x_1 x_2) ∧ ((putVC_8 x x_1) ∧ (((0 : Int) = (0 : Int)) ∧ (((0 : Int) = (0 : Int)) ∧ ((putVC_11 x x_1) ∧ (((@b2i (@hadM (@SP.s x) (@SP.key x))) = (0 : Int)) ∧ True)))))) ∧ (putVC_9 x)))))))))))))
def putVC_2 (x : SP) (x_2 : @SK) : Prop := (((x_2.s.n = (@Shf.n (@SP.s x))) ∧ (∀ (q : Nat), ((q < x_2.s.n) → ([(Value.string (@Shf.pk x_2.s q)), (Value.string (@Shf.pv x_2.s q))] = [(Value.string (@Shf.pk (@SP.s x) q)), (Value.string (@Shf.pv (@SP.s x) q))])))) ∧ (((x_2.s.m = (@Shf.m (@SP.s x))) ∧ (∀ (q : Nat), ((q < x_2.s.m) → ([(Value.string (@Shf.qv x_2.s q))] = [(Value.string (@Shf.qv (@SP.s x) q))])))) ∧ True))
def putVC_7 (x : SP) : Prop := ((AV.agg [(AV.slR 0 0 2 (@Shf.n (@SP.s x))), (AV.slR 1 0 1 (@Shf.m (@SP.s x)))]) = (AV.agg [(AV.slR 0 0 2 (@Shf.n (@SP.s x))), (AV.slR 1 0 1 (@Shf.m (@SP.s x)))]))
def putVC_10 (x : SP) : Prop := ((AV.lit (Value.string (@SP.key x))) = (AV.lit (Value.string (@SP.key x))))
def putVC_3 (x : SP) : Prop := ((putVC_10 x) ∧ ((putVC_7 x) ∧ True))
def putVC_4 (x : SP) (x_2 : @SK) : Prop := ((((0 = 0) ∧ (x_2.s.n = (@Shf.n (@SP.s x)))) ∧ (((0 = 0) ∧ (x_2.s.m = (@Shf.m (@SP.s x)))) ∧ True)) ∧ ((x_2.key = (@SP.key x)) ∧ True))
def putVC_5 (x : SP) (x_1 : Int) (x_2 : @SK) : Prop := (True ∧ (((@List.length @Cst [(@Cst.mk ((@linesM x_1) + (1 : Int)) ((@linesM x_1) + (1 : Int)) (0 : Int) (0 : Int) (@linesM x_1) (0 : Int)), (@Cst.mk (@findM x_2.s x_2.key) (0 : Int) (0 : Int) (0 : Int) (0 : Int) (0 : Int))]) < 4611686018427387904) ∧ (putVC_1 x x_1 x_2)))
def putVC_12 (x : SP) (x_1 : Int) : Prop := ((putVC_3 x) ∧ (∃ (x_2 : @SK), ((Hd x_2.ok) ∧ ((putVC_4 x x_2) ∧ ((putVC_2 x x_2) ∧ (∀ (y_1 : Unit), (True → (True ∧ (putVC_5 x x_1 x_2)))))))))
def putVC (x : SP) : Prop :=
  ((I64 ((((@ByteArray.size (@SP.key x)) : Nat) : Int) + (((@ByteArray.size (@SP.value x)) : Nat) : Int))) ∧ ((∃ (x_1 : Int), (True ∧ (((x_1 = ((((@ByteArray.size (@SP.key x)) : Nat) : Int) + (((@ByteArray.size (@SP.value x)) : Nat) : Int))) ∧ True) ∧ (True ∧ (∀ (y : Unit), (True → ((putVC_3 x) ∧ ((∃ (x_2 : @SK), ((Hd x_2.ok) ∧ ((putVC_4 x x_2) ∧ ((putVC_2 x x_2) ∧ (∀ (y_1 : Unit), (True → (True ∧ ((True ∧ ((((@List.length @Cst [(@Cst.mk ((@linesM x_1) + (1 : Int)) ((@linesM x_1) + (1 : Int)) (0 : Int) (0 : Int) (@linesM x_1) (0 : Int)), (@Cst.mk (@findM x_2.s x_2.key) (0 : Int) (0 : Int) (0 : Int) (0 : Int) (0 : Int))]) < 4611686018427387904) ∧ (True ∧ (putVC_1 x x_1 x_2))) ∧ (putVC_5 x x_1 x_2))) ∧ (True ∧ (putVC_5 x x_1 x_2)))))))))) ∧ (putVC_12 x x_1))))))))) ∧ (((putVC_10 x) ∧ ((putVC_7 x) ∧ (((AV.lit (Value.string (@SP.value x))) = (AV.lit (Value.string (@SP.value x)))) ∧ ((putVC_10 x) ∧ True)))) ∧ (∃ (x_1 : Int), (True ∧ (((x_1 = ((((@ByteArray.size (@SP.key x)) : Nat) : Int) + (((@ByteArray.size (@SP.value x)) : Nat) : Int))) ∧ True) ∧ (True ∧ (∀ (y : Unit), (True → (putVC_12 x x_1))))))))))
theorem putVC_ok (x : SP) : putVC x = putVC_wp x := by kernel_rfl
def delVC_wp (x : SK) : Prop := wpF Try.prog tblW tt noAn 200 5 39 (delC.args x) (hO delC.k (delC.os x)) (fun v h' => endsP delC.k x v h' delC.outs)
def delVC (x : SK) : Prop :=
  (∃ (x_1 : @SK), ((Hd x_1.ok) ∧ (((((0 = 0) ∧ (x_1.s.n = x.s.n)) ∧ (((0 = 0) ∧ (x_1.s.m = x.s.m)) ∧ True)) ∧ ((x_1.key = x.key) ∧ True)) ∧ ((((x_1.s.n = x.s.n) ∧ (∀ (q : Nat), ((q < x_1.s.n) → ([(Value.string (@Shf.pk x_1.s q)), (Value.string (@Shf.pv x_1.s q))] = [(Value.string (@Shf.pk x.s q)), (Value.string (@Shf.pv x.s q))])))) ∧ (((x_1.s.m = x.s.m) ∧ (∀ (q : Nat), ((q < x_1.s.m) → ([(Value.string (@Shf.qv x_1.s q))] = [(Value.string (@Shf.qv x.s q))])))) ∧ True)) ∧ (∀ (y : Unit), (True → (∃ (x_2 : @SK), ((Hd x_2.ok) ∧ (((((0 = 0) ∧ (x_2.s.n = x.s.n)) ∧ (((0 = 0) ∧ (x_2.s.m = x.s.m)) ∧ True)) ∧ ((x_2.key = x.key) ∧ True)) ∧ ((((x_2.s.n = x.s.n) ∧ (∀ (q : Nat), ((q < x_2.s.n) → ([(Value.string (@Shf.pk x_2.s q)), (Value.string (@Shf.pv x_2.s q))] = [(Value.string (@Shf.pk x.s q)), (Value.string (@Shf.pv x.s q))])))) ∧ (((x_2.s.m = x.s.m) ∧ (∀ (q : Nat), ((q < x_2.s.m) → ([(Value.string (@Shf.qv x_2.s q))] = [(Value.string (@Shf.qv x.s q))])))) ∧ True)) ∧ (∀ (y_1 : Unit), (True → (cP (@hadM x_2.s x_2.key) (((@List.length @Cst [(@Cst.mk (@findM x_1.s x_1.key) (0 : Int) (0 : Int) (0 : Int) (0 : Int) (0 : Int)), (@Cst.mk (2 : Int) (2 : Int) (0 : Int) (0 : Int) (1 : Int) (1 : Int))]) < 4611686018427387904) ∧ (∃ (y_2 : Unit), (True ∧ ((((@Cst.s0 (@partM x.s (3 : Int) x.key x.key (0 : Int))) = (@Cst.heldM (@Cst.heldM (0 : Int) (@findM x_1.s x_1.key)) (2 : Int))) ∧ (((@Cst.s1 (@partM x.s (3 : Int) x.key x.key (0 : Int))) = (2 : Int)) ∧ (((@Cst.s2 (@partM x.s (3 : Int) x.key x.key (0 : Int))) = (0 : Int)) ∧
 (((@Cst.s3 (@partM x.s (3 : Int) x.key x.key (0 : Int))) = (0 : Int)) ∧ (((@Cst.s4 (@partM x.s (3 : Int) x.key x.key (0 : Int))) = (1 : Int)) ∧ (((@Cst.s5 (@partM x.s (3 : Int) x.key x.key (0 : Int))) = (1 : Int)) ∧ True)))))) ∧ ((((rowP x.s) = (rowP x.s)) ∧ (Bool.true = Bool.true)) ∧ ((((@rowQ x.s) = (@rowQ x.s)) ∧ (Bool.true = Bool.true)) ∧ True)))))) (∃ (y_2 : Unit), (True ∧ ((((@Cst.s0 (@partM x.s (3 : Int) x.key x.key (0 : Int))) = (@findM x_1.s x_1.key)) ∧ (((@Cst.s1 (@partM x.s (3 : Int) x.key x.key (0 : Int))) = (0 : Int)) ∧ (((@Cst.s2 (@partM x.s (3 : Int) x.key x.key (0 : Int))) = (0 : Int)) ∧ (((@Cst.s3 (@partM x.s (3 : Int) x.key x.key (0 : Int))) = (0 : Int)) ∧ (((@Cst.s4 (@partM x.s (3 : Int) x.key x.key (0 : Int))) = (0 : Int)) ∧ (((@Cst.s5 (@partM x.s (3 : Int) x.key x.key (0 : Int))) = (0 : Int)) ∧ True)))))) ∧ ((((rowP x.s) = (rowP x.s)) ∧ (Bool.true = Bool.true)) ∧ ((((@rowQ x.s) = (@rowQ x.s)) ∧ (Bool.true = Bool.true)) ∧ True))))))))))))))))))
theorem delVC_ok (x : SK) : delVC x = delVC_wp x := by kernel_rfl
def partVC_wp (x : SP) : Prop := wpF Try.prog tblW tt noAn 200 5 48 (partC.args x) (hO partC.k (partC.os x)) (fun v h' => endsP partC.k x v h' partC.outs)
def partVC (x : SP) : Prop :=
  (∃ (x_1 : @SK), ((Hd x_1.ok) ∧ (((((0 = 0) ∧ (x_1.s.n = (@Shf.n (@SP.s x)))) ∧ (((0 = 0) ∧ (x_1.s.m = (@Shf.m (@SP.s x)))) ∧ True)) ∧ ((x_1.key = (@SP.key x)) ∧ True)) ∧ ((((x_1.s.n = (@Shf.n (@SP.s x))) ∧ (∀ (q : Nat), ((q < x_1.s.n) → ([(Value.string (@Shf.pk x_1.s q)), (Value.string (@Shf.pv x_1.s q))] = [(Value.string (@Shf.pk (@SP.s x) q)), (Value.string (@Shf.pv (@SP.s x) q))])))) ∧ (((x_1.s.m = (@Shf.m (@SP.s x))) ∧ (∀ (q : Nat), ((q < x_1.s.m) → ([(Value.string (@Shf.qv x_1.s q))] = [(Value.string (@Shf.qv (@SP.s x) q))])))) ∧ True)) ∧ (∀ (y : Unit), (True → (cP (BEq.beq (@SP.kind x) (2 : Int)) ((I64 ((((@ByteArray.size (@SP.key x)) : Nat) : Int) + (((@ByteArray.size (@SP.value x)) : Nat) : Int))) ∧ (∃ (x_2 : Int), (True ∧ (((x_2 = ((((@ByteArray.size (@SP.key x)) : Nat) : Int) + (((@ByteArray.size (@SP.value x)) : Nat) : Int))) ∧ True) ∧ (True ∧ (∀ (y_1 : Unit), (True → (∃ (x_3 : @SK), ((Hd x_3.ok) ∧ (((((0 = 0) ∧ (x_3.s.n = (@Shf.n (@SP.s x)))) ∧ (((0 = 0) ∧ (x_3.s.m = (@Shf.m (@SP.s x)))) ∧ True)) ∧ ((x_3.key = (@SP.key x)) ∧ True)) ∧ ((((x_3.s.n = (@Shf.n (@SP.s x))) ∧ (∀ (q : Nat), ((q < x_3.s.n) → ([(Value.string (@Shf.pk x_3.s q)), (Value.string (@Shf.pv x_3.s q))] = [(Value.string (@Shf.pk (@SP.s x) q)), (Value.string (@Shf.pv (@SP.s x) q))])))) ∧ (((x_3.s.m = (@Shf.m (@SP.s x))) ∧ (∀ (q : Nat), ((q < x_3.s.m) → ([(Value.string (@Shf.qv x_3.s q))] = [(Value.string (@Shf.qv (@SP.s x) q))])))) ∧ True)) ∧ (∀ (y_2 : Unit), (True → ((((AV.lit (Value.int IntKind.i64 ((@linesM x_2) + (1 : Int)))) = (AV.lit (Value.int IntKind.i64 ((@linesM x_2) + (1 : Int))))) ∧
 True) ∧ ((I64 (((@linesM x_2) + (1 : Int)) + (@findM x_3.s x_3.key))) ∧ ((I64 ((((@linesM x_2) + (1 : Int)) + (@findM x_3.s x_3.key)) + (@SP.e x))) ∧ (True ∧ (cP (@hadM x_1.s x_1.key) (∃ (y_3 : Unit), (True ∧ ((((@Cst.s0 (@SP.pt x)) = ((((@linesM x_2) + (1 : Int)) + (@findM x_3.s x_3.key)) + (@SP.e x))) ∧ (((@Cst.s1 (@SP.pt x)) = ((@linesM x_2) + (1 : Int))) ∧ (((@Cst.s2 (@SP.pt x)) = (0 : Int)) ∧ (((@Cst.s3 (@SP.pt x)) = (0 : Int)) ∧ (((@Cst.s4 (@SP.pt x)) = (@linesM x_2)) ∧ (((@Cst.s5 (@SP.pt x)) = (1 : Int)) ∧ True)))))) ∧ ((((rowP (@SP.s x)) = (rowP (@SP.s x))) ∧ (Bool.true = Bool.true)) ∧ ((((@rowQ (@SP.s x)) = (@rowQ (@SP.s x))) ∧ (Bool.true = Bool.true)) ∧ True))))) (∃ (y_3 : Unit), (True ∧ ((((@Cst.s0 (@SP.pt x)) = ((((@linesM x_2) + (1 : Int)) + (@findM x_3.s x_3.key)) + (@SP.e x))) ∧ (((@Cst.s1 (@SP.pt x)) = ((@linesM x_2) + (1 : Int))) ∧ (((@Cst.s2 (@SP.pt x)) = (0 : Int)) ∧ (((@Cst.s3 (@SP.pt x)) = (0 : Int)) ∧ (((@Cst.s4 (@SP.pt x)) = (@linesM x_2)) ∧ (((@Cst.s5 (@SP.pt x)) = (0 : Int)) ∧ True)))))) ∧ ((((rowP (@SP.s x)) = (rowP (@SP.s x))) ∧ (Bool.true = Bool.true)) ∧ ((((@rowQ (@SP.s x)) = (@rowQ (@SP.s x))) ∧ (Bool.true = Bool.true)) ∧ True))))))))))))))))))))))) (cP (BEq.beq (@SP.kind x) (3 : Int)) (cP (@hadM x_1.s x_1.key) ((I64 ((2 : Int) + (@SP.e x))) ∧ (∃ (x_2 : @SK), ((Hd x_2.ok) ∧ (((((0 = 0) ∧ (x_2.s.n = (@Shf.n (@SP.s x)))) ∧ (((0 = 0) ∧ (x_2.s.m = (@Shf.m (@SP.s x)))) ∧ True)) ∧ ((x_2.key = (@SP.key x)) ∧ True)) ∧ ((((x_2.s.n = (@Shf.n (@SP.s x))) ∧ (∀ (q : Nat), ((q < x_2.s.n) → ([(Value.string (@Shf.pk x_2.s q)), (Value.string (@Shf.pv x_2.s q))] = [(Value.string (@Shf.pk (@SP.s x) q)), (Value.string (@Shf.pv (@SP.s x) q))])))) ∧
 (((x_2.s.m = (@Shf.m (@SP.s x))) ∧ (∀ (q : Nat), ((q < x_2.s.m) → ([(Value.string (@Shf.qv x_2.s q))] = [(Value.string (@Shf.qv (@SP.s x) q))])))) ∧ True)) ∧ (∀ (y_1 : Unit), (True → ((((AV.lit (Value.int IntKind.i64 ((2 : Int) + (@SP.e x)))) = (AV.lit (Value.int IntKind.i64 ((2 : Int) + (@SP.e x))))) ∧ True) ∧ ((I64 (((2 : Int) + (@SP.e x)) + (@findM x_2.s x_2.key))) ∧ (True ∧ (∃ (y_2 : Unit), (True ∧ ((((@Cst.s0 (@SP.pt x)) = (((2 : Int) + (@SP.e x)) + (@findM x_2.s x_2.key))) ∧ (((@Cst.s1 (@SP.pt x)) = (2 : Int)) ∧ (((@Cst.s2 (@SP.pt x)) = (0 : Int)) ∧ (((@Cst.s3 (@SP.pt x)) = (0 : Int)) ∧ (((@Cst.s4 (@SP.pt x)) = (1 : Int)) ∧ (((@Cst.s5 (@SP.pt x)) = (1 : Int)) ∧ True)))))) ∧ ((((rowP (@SP.s x)) = (rowP (@SP.s x))) ∧ (Bool.true = Bool.true)) ∧ ((((@rowQ (@SP.s x)) = (@rowQ (@SP.s x))) ∧ (Bool.true = Bool.true)) ∧ True))))))))))))))) (∃ (x_2 : @SK), ((Hd x_2.ok) ∧ (((((0 = 0) ∧ (x_2.s.n = (@Shf.n (@SP.s x)))) ∧ (((0 = 0) ∧ (x_2.s.m = (@Shf.m (@SP.s x)))) ∧ True)) ∧ ((x_2.key = (@SP.key x)) ∧ True)) ∧ ((((x_2.s.n = (@Shf.n (@SP.s x))) ∧ (∀ (q : Nat), ((q < x_2.s.n) → ([(Value.string (@Shf.pk x_2.s q)), (Value.string (@Shf.pv x_2.s q))] = [(Value.string (@Shf.pk (@SP.s x) q)), (Value.string (@Shf.pv (@SP.s x) q))])))) ∧ (((x_2.s.m = (@Shf.m (@SP.s x))) ∧ (∀ (q : Nat), ((q < x_2.s.m) → ([(Value.string (@Shf.qv x_2.s q))] = [(Value.string (@Shf.qv (@SP.s x) q))])))) ∧ True)) ∧ (∀ (y_1 : Unit), (True → ((((AV.lit (Value.int IntKind.i64 (0 : Int))) = (AV.lit (Value.int IntKind.i64 (0 : Int)))) ∧
 True) ∧ ((I64 ((0 : Int) + (@findM x_2.s x_2.key))) ∧ (True ∧ (∃ (y_2 : Unit), (True ∧ ((((@Cst.s0 (@SP.pt x)) = ((0 : Int) + (@findM x_2.s x_2.key))) ∧ (((@Cst.s1 (@SP.pt x)) = (0 : Int)) ∧ (((@Cst.s2 (@SP.pt x)) = (0 : Int)) ∧ (((@Cst.s3 (@SP.pt x)) = (0 : Int)) ∧ (((@Cst.s4 (@SP.pt x)) = (0 : Int)) ∧ (((@Cst.s5 (@SP.pt x)) = (0 : Int)) ∧ True)))))) ∧ ((((rowP (@SP.s x)) = (rowP (@SP.s x))) ∧ (Bool.true = Bool.true)) ∧ ((((@rowQ (@SP.s x)) = (@rowQ (@SP.s x))) ∧ (Bool.true = Bool.true)) ∧ True))))))))))))))) (cP (BEq.beq (@SP.kind x) (4 : Int)) (∃ (x_2 : Int), (True ∧ (((x_2 = (((@ByteArray.size (@SP.value x)) : Nat) : Int)) ∧ True) ∧ (True ∧ (∀ (y_1 : Unit), (True → ((I64 (((@linesM x_2) + (1 : Int)) + (1 : Int))) ∧ (∃ (y_2 : Unit), (True ∧ ((((@Cst.s0 (@SP.pt x)) = (((@linesM x_2) + (1 : Int)) + (1 : Int))) ∧ (((@Cst.s1 (@SP.pt x)) = ((@linesM x_2) + (1 : Int))) ∧ (((@Cst.s2 (@SP.pt x)) = (0 : Int)) ∧ (((@Cst.s3 (@SP.pt x)) = (0 : Int)) ∧ (((@Cst.s4 (@SP.pt x)) = (@linesM x_2)) ∧ (((@Cst.s5 (@SP.pt x)) = (0 : Int)) ∧ True)))))) ∧ ((((rowP (@SP.s x)) = (rowP (@SP.s x))) ∧ (Bool.true = Bool.true)) ∧ ((((@rowQ (@SP.s x)) = (@rowQ (@SP.s x))) ∧ (Bool.true = Bool.true)) ∧ True)))))))))))) (∃ (y_1 : Unit), (True ∧ ((((@Cst.s0 (@SP.pt x)) = (0 : Int)) ∧ (((@Cst.s1 (@SP.pt x)) = (0 : Int)) ∧ (((@Cst.s2 (@SP.pt x)) = (0 : Int)) ∧ (((@Cst.s3 (@SP.pt x)) = (0 : Int)) ∧ (((@Cst.s4 (@SP.pt x)) = (0 : Int)) ∧ (((@Cst.s5 (@SP.pt x)) = (0 : Int)) ∧ True)))))) ∧ ((((rowP (@SP.s x)) = (rowP (@SP.s x))) ∧
 (Bool.true = Bool.true)) ∧ ((((@rowQ (@SP.s x)) = (@rowQ (@SP.s x))) ∧ (Bool.true = Bool.true)) ∧ True))))))))))))))
theorem partVC_ok (x : SP) : partVC x = partVC_wp x := by kernel_rfl
def groupVC_wp (x : SG) : Prop := wpF Try.prog ((38, ctrT putC) :: (39, ctrT delC) :: tblW) tt (anGroup x) 200 5 42 (groupC.args x) (hO groupC.k (groupC.os x)) (fun v h' => endsP groupC.k x v h' groupC.outs)
def groupVC_3 (x : SG) : Prop := (((@Cs.row 5 (@SG.n x) (fun (k : Nat) => (Mem.cells (@SG.g x k))) (@List.nil (@Prod Nat (@List Value)))) = (@Cs.row 5 (@SG.n x) (fun (k : Nat) => (Mem.cells (@SG.g x k))) (@List.nil (@Prod Nat (@List Value))))) ∧ (Bool.true = Bool.true))
def groupVC_1 (x : SG) : Prop := ((((0 : Int) = (0 : Int)) ∧ (((0 : Int) = (0 : Int)) ∧ (((0 : Int) = (0 : Int)) ∧ (((0 : Int) = (0 : Int)) ∧ (((0 : Int) = (0 : Int)) ∧ (((0 : Int) = (0 : Int)) ∧ True)))))) ∧ ((((0 = 0) ∧ ((@Shf.n (@SG.s x)) = (@Shf.n (@SG.s x)))) ∧ (((0 = 0) ∧ ((@Shf.m (@SG.s x)) = (@Shf.m (@SG.s x)))) ∧ True)) ∧ ((groupVC_3 x) ∧ ((((@rowQ (@SG.s x)) = (@rowQ (@SG.s x))) ∧ (Bool.true = Bool.true)) ∧ ((((rowP (@SG.s x)) = (rowP (@SG.s x))) ∧ (Bool.true = Bool.true)) ∧ True)))))
def groupVC_2 (x : SG) (s : Nat) : Prop := (((AV.agg [(AV.lit (Value.int IntKind.i64 (@Cst.s0 (@groupTo (@SG.s x) (@SG.g x) s)))), (AV.lit (Value.int IntKind.i64 (@Cst.s1 (@groupTo (@SG.s x) (@SG.g x) s)))), (AV.lit (Value.int IntKind.i64 (@Cst.s2 (@groupTo (@SG.s x) (@SG.g x) s)))), (AV.lit (Value.int IntKind.i64 (@Cst.s3 (@groupTo (@SG.s x) (@SG.g x) s)))), (AV.lit (Value.int IntKind.i64 (@Cst.s4 (@groupTo (@SG.s x) (@SG.g x) s)))), (AV.lit (Value.int IntKind.i64 (@Cst.s5 (@groupTo (@SG.s x) (@SG.g x) s))))]) = (AV.agg [(AV.lit (Value.int IntKind.i64 (@Cst.s0 (@groupTo (@SG.s x) (@SG.g x) s)))), (AV.lit (Value.int IntKind.i64 (@Cst.s1 (@groupTo (@SG.s x) (@SG.g x) s)))), (AV.lit (Value.int IntKind.i64 (@Cst.s2 (@groupTo (@SG.s x) (@SG.g x) s)))), (AV.lit (Value.int IntKind.i64 (@Cst.s3 (@groupTo (@SG.s x) (@SG.g x) s)))), (AV.lit (Value.int IntKind.i64 (@Cst.s4 (@groupTo (@SG.s x) (@SG.g x) s)))), (AV.lit (Value.int IntKind.i64 (@Cst.s5 (@groupTo (@SG.s x) (@SG.g x) s))))])) ∧ True)
def groupVC (x : SG) : Prop :=
  ((∃ (s : Nat), ((s ≤ (@SG.n x)) ∧ (True ∧ (((((s : Nat) : Int) = (0 : Int)) ∧ True) ∧ ((((@Cst.s0 (@groupTo (@SG.s x) (@SG.g x) s)) = (3 : Int)) ∧ (((@Cst.s1 (@groupTo (@SG.s x) (@SG.g x) s)) = (0 : Int)) ∧ (((@Cst.s2 (@groupTo (@SG.s x) (@SG.g x) s)) = (0 : Int)) ∧ (((@Cst.s3 (@groupTo (@SG.s x) (@SG.g x) s)) = (0 : Int)) ∧ (((@Cst.s4 (@groupTo (@SG.s x) (@SG.g x) s)) = (0 : Int)) ∧ (((@Cst.s5 (@groupTo (@SG.s x) (@SG.g x) s)) = (0 : Int)) ∧ True)))))) ∧ (groupVC_1 x)))))) ∧ ((∀ (s : Nat), ((s ≤ (@SG.n x)) → (cP (decide (((s : Nat) : Int) < (((@SG.n x) : Nat) : Int))) ((((0 : Int) ≤ ((s : Nat) : Int)) ∧ (((s : Nat) : Int) < (((@SG.n x) : Nat) : Int))) ∧ (((0 + s) < (@SG.n x)) ∧ (cP (BEq.beq (Mem.kind (@SG.g x (0 + s))) (2 : Int)) (∃ (x_1 : @SP), ((Hd (@SP.ok x_1)) ∧ (((((0 = 0) ∧ ((@Shf.n (@SP.s x_1)) = (@Shf.n (@SG.s x)))) ∧ (((0 = 0) ∧ ((@Shf.m (@SP.s x_1)) = (@Shf.m (@SG.s x)))) ∧ True)) ∧ ((((@SP.kind x_1) = (Mem.kind (@SG.g x (0 + s)))) ∧ (((@SP.key x_1) = (Mem.key (@SG.g x (0 + s)))) ∧ (((@SP.value x_1) = (Mem.value (@SG.g x (0 + s)))) ∧ (((@SP.to x_1) = (Mem.to (@SG.g x (0 + s)))) ∧ (True ∧ True))))) ∧ True)) ∧ (((((@Shf.n (@SP.s x_1)) = (@Shf.n (@SG.s x))) ∧ (∀ (q : Nat), ((q < (@Shf.n (@SP.s x_1))) → ([(Value.string (@Shf.pk (@SP.s x_1) q)), (Value.string (@Shf.pv (@SP.s x_1) q))] = [(Value.string (@Shf.pk (@SG.s x) q)), (Value.string (@Shf.pv (@SG.s x) q))])))) ∧ ((((@Shf.m (@SP.s x_1)) = (@Shf.m (@SG.s x))) ∧ (∀ (q : Nat), ((q < (@Shf.m (@SP.s x_1))) → ([(Value.string (@Shf.qv (@SP.s x_1) q))] = [(Value.string (@Shf.qv (@SG.s x) q))])))) ∧
 True)) ∧ (∀ (y : Unit), (True → ((groupVC_2 x s) ∧ (True ∧ (((@List.length @Cst [(@Cst.mk (@Cst.s0 (@groupTo (@SG.s x) (@SG.g x) s)) (@Cst.s1 (@groupTo (@SG.s x) (@SG.g x) s)) (@Cst.s2 (@groupTo (@SG.s x) (@SG.g x) s)) (@Cst.s3 (@groupTo (@SG.s x) (@SG.g x) s)) (@Cst.s4 (@groupTo (@SG.s x) (@SG.g x) s)) (@Cst.s5 (@groupTo (@SG.s x) (@SG.g x) s))), (@Cst.mk ((((@linesM ((((@ByteArray.size (@SP.key x_1)) + (@ByteArray.size (@SP.value x_1))) : Nat) : Int)) + (1 : Int)) + (@findM (@SP.s x_1) (@SP.key x_1))) + (0 : Int)) ((@linesM ((((@ByteArray.size (@SP.key x_1)) + (@ByteArray.size (@SP.value x_1))) : Nat) : Int)) + (1 : Int)) (0 : Int) (0 : Int) (@linesM ((((@ByteArray.size (@SP.key x_1)) + (@ByteArray.size (@SP.value x_1))) : Nat) : Int)) (@b2i (@hadM (@SP.s x_1) (@SP.key x_1))))]) < 4611686018427387904) ∧ (True ∧ (True ∧ ((I64 (((s : Nat) : Int) + (1 : Int))) ∧ (∃ (s_1 : Nat), ((s_1 ≤ (@SG.n x)) ∧ ((((@SG.n x) - s_1) < ((@SG.n x) - s)) ∧ (((((s_1 : Nat) : Int) = (((s : Nat) : Int) + (1 : Int))) ∧ True) ∧ ((((@Cst.s0 (@groupTo (@SG.s x) (@SG.g x) s_1)) = (@Cst.heldM (@Cst.heldM (0 : Int) (@Cst.s0 (@groupTo (@SG.s x) (@SG.g x) s))) ((((@linesM ((((@ByteArray.size (@SP.key x_1)) + (@ByteArray.size (@SP.value x_1))) : Nat) : Int)) + (1 : Int)) + (@findM (@SP.s x_1) (@SP.key x_1))) + (0 : Int)))) ∧ (((@Cst.s1 (@groupTo (@SG.s x) (@SG.g x) s_1)) = (@Cst.heldM (@Cst.heldM (0 : Int) (@Cst.s1 (@groupTo (@SG.s x) (@SG.g x) s))) ((@linesM ((((@ByteArray.size (@SP.key x_1)) + (@ByteArray.size (@SP.value x_1))) : Nat) : Int)) + (1 : Int)))) ∧
 (((@Cst.s2 (@groupTo (@SG.s x) (@SG.g x) s_1)) = (@Cst.heldM (@Cst.heldM (0 : Int) (@Cst.s2 (@groupTo (@SG.s x) (@SG.g x) s))) (0 : Int))) ∧ (((@Cst.s3 (@groupTo (@SG.s x) (@SG.g x) s_1)) = (@Cst.heldM (@Cst.heldM (0 : Int) (@Cst.s3 (@groupTo (@SG.s x) (@SG.g x) s))) (0 : Int))) ∧ (((@Cst.s4 (@groupTo (@SG.s x) (@SG.g x) s_1)) = (@Cst.heldM (@Cst.heldM (0 : Int) (@Cst.s4 (@groupTo (@SG.s x) (@SG.g x) s))) (@linesM ((((@ByteArray.size (@SP.key x_1)) + (@ByteArray.size (@SP.value x_1))) : Nat) : Int)))) ∧ (((@Cst.s5 (@groupTo (@SG.s x) (@SG.g x) s_1)) = (@Cst.heldM (@Cst.heldM (0 : Int) (@Cst.s5 (@groupTo (@SG.s x) (@SG.g x) s))) (@b2i (@hadM (@SP.s x_1) (@SP.key x_1))))) ∧ True)))))) ∧ (groupVC_1 x)))))))))))))))))) (cP (BEq.beq (Mem.kind (@SG.g x (0 + s))) (3 : Int)) (∃ (x_1 : @SK), ((Hd x_1.ok) ∧ (((((0 = 0) ∧ (x_1.s.n = (@Shf.n (@SG.s x)))) ∧ (((0 = 0) ∧ (x_1.s.m = (@Shf.m (@SG.s x)))) ∧ True)) ∧ ((x_1.key = (Mem.key (@SG.g x (0 + s)))) ∧ True)) ∧ ((((x_1.s.n = (@Shf.n (@SG.s x))) ∧ (∀ (q : Nat), ((q < x_1.s.n) → ([(Value.string (@Shf.pk x_1.s q)), (Value.string (@Shf.pv x_1.s q))] = [(Value.string (@Shf.pk (@SG.s x) q)), (Value.string (@Shf.pv (@SG.s x) q))])))) ∧ (((x_1.s.m = (@Shf.m (@SG.s x))) ∧ (∀ (q : Nat), ((q < x_1.s.m) → ([(Value.string (@Shf.qv x_1.s q))] = [(Value.string (@Shf.qv (@SG.s x) q))])))) ∧ True)) ∧ (∀ (y : Unit), (True → ((groupVC_2 x s) ∧ (True ∧ (((@List.length @Cst [(@Cst.mk (@Cst.s0 (@groupTo (@SG.s x) (@SG.g x) s)) (@Cst.s1 (@groupTo (@SG.s x) (@SG.g x) s)) (@Cst.s2 (@groupTo (@SG.s x) (@SG.g x) s)) (@Cst.s3 (@groupTo (@SG.s x) (@SG.g x) s)) (@Cst.s4 (@groupTo (@SG.s x) (@SG.g x) s)) (@Cst.s5 (@groupTo (@SG.s x) (@SG.g x) s))), (@Cst.mk (@Cst.s0 (@partM x_1.s (3 : Int) x_1.key x_1.key (0 : Int))) (@Cst.s1 (@partM x_1.s (3 : Int) x_1.key x_1.key (0 : Int))) (@Cst.s2 (@partM x_1.s (3 : Int) x_1.key x_1.key (0 : Int))) (@Cst.s3 (@partM x_1.s (3 : Int) x_1.key x_1.key (0 : Int))) (@Cst.s4 (@partM x_1.s (3 : Int) x_1.key x_1.key (0 : Int))) (@Cst.s5 (@partM x_1.s (3 : Int) x_1.key x_1.key (0 : Int))))]) < 4611686018427387904) ∧
 (True ∧ (True ∧ ((I64 (((s : Nat) : Int) + (1 : Int))) ∧ (∃ (s_1 : Nat), ((s_1 ≤ (@SG.n x)) ∧ ((((@SG.n x) - s_1) < ((@SG.n x) - s)) ∧ (((((s_1 : Nat) : Int) = (((s : Nat) : Int) + (1 : Int))) ∧ True) ∧ ((((@Cst.s0 (@groupTo (@SG.s x) (@SG.g x) s_1)) = (@Cst.heldM (@Cst.heldM (0 : Int) (@Cst.s0 (@groupTo (@SG.s x) (@SG.g x) s))) (@Cst.s0 (@partM x_1.s (3 : Int) x_1.key x_1.key (0 : Int))))) ∧ (((@Cst.s1 (@groupTo (@SG.s x) (@SG.g x) s_1)) = (@Cst.heldM (@Cst.heldM (0 : Int) (@Cst.s1 (@groupTo (@SG.s x) (@SG.g x) s))) (@Cst.s1 (@partM x_1.s (3 : Int) x_1.key x_1.key (0 : Int))))) ∧ (((@Cst.s2 (@groupTo (@SG.s x) (@SG.g x) s_1)) = (@Cst.heldM (@Cst.heldM (0 : Int) (@Cst.s2 (@groupTo (@SG.s x) (@SG.g x) s))) (@Cst.s2 (@partM x_1.s (3 : Int) x_1.key x_1.key (0 : Int))))) ∧ (((@Cst.s3 (@groupTo (@SG.s x) (@SG.g x) s_1)) = (@Cst.heldM (@Cst.heldM (0 : Int) (@Cst.s3 (@groupTo (@SG.s x) (@SG.g x) s))) (@Cst.s3 (@partM x_1.s (3 : Int) x_1.key x_1.key (0 : Int))))) ∧ (((@Cst.s4 (@groupTo (@SG.s x) (@SG.g x) s_1)) = (@Cst.heldM (@Cst.heldM (0 : Int) (@Cst.s4 (@groupTo (@SG.s x) (@SG.g x) s))) (@Cst.s4 (@partM x_1.s (3 : Int) x_1.key x_1.key (0 : Int))))) ∧ (((@Cst.s5 (@groupTo (@SG.s x) (@SG.g x) s_1)) = (@Cst.heldM (@Cst.heldM (0 : Int) (@Cst.s5 (@groupTo (@SG.s x) (@SG.g x) s))) (@Cst.s5 (@partM x_1.s (3 : Int) x_1.key x_1.key (0 : Int))))) ∧ True)))))) ∧ (groupVC_1 x)))))))))))))))))) (∃ (x_1 : Int), (True ∧ (((x_1 = (((@ByteArray.size (Mem.value (@SG.g x (0 + s)))) : Nat) : Int)) ∧ True) ∧
 (True ∧ (∀ (y : Unit), (True → ((groupVC_2 x s) ∧ (True ∧ (((@List.length @Cst [(@Cst.mk (@Cst.s0 (@groupTo (@SG.s x) (@SG.g x) s)) (@Cst.s1 (@groupTo (@SG.s x) (@SG.g x) s)) (@Cst.s2 (@groupTo (@SG.s x) (@SG.g x) s)) (@Cst.s3 (@groupTo (@SG.s x) (@SG.g x) s)) (@Cst.s4 (@groupTo (@SG.s x) (@SG.g x) s)) (@Cst.s5 (@groupTo (@SG.s x) (@SG.g x) s))), (@Cst.mk (1 : Int) (0 : Int) (0 : Int) (0 : Int) (0 : Int) (0 : Int)), (@Cst.mk ((@linesM x_1) + (1 : Int)) ((@linesM x_1) + (1 : Int)) (0 : Int) (0 : Int) (@linesM x_1) (0 : Int))]) < 4611686018427387904) ∧ (True ∧ (True ∧ ((I64 (((s : Nat) : Int) + (1 : Int))) ∧ (∃ (s_1 : Nat), ((s_1 ≤ (@SG.n x)) ∧ ((((@SG.n x) - s_1) < ((@SG.n x) - s)) ∧ (((((s_1 : Nat) : Int) = (((s : Nat) : Int) + (1 : Int))) ∧ True) ∧ ((((@Cst.s0 (@groupTo (@SG.s x) (@SG.g x) s_1)) = (@Cst.heldM (@Cst.heldM (@Cst.heldM (0 : Int) (@Cst.s0 (@groupTo (@SG.s x) (@SG.g x) s))) (1 : Int)) ((@linesM x_1) + (1 : Int)))) ∧ (((@Cst.s1 (@groupTo (@SG.s x) (@SG.g x) s_1)) = (@Cst.heldM (@Cst.heldM (@Cst.heldM (0 : Int) (@Cst.s1 (@groupTo (@SG.s x) (@SG.g x) s))) (0 : Int)) ((@linesM x_1) + (1 : Int)))) ∧ (((@Cst.s2 (@groupTo (@SG.s x) (@SG.g x) s_1)) = (@Cst.heldM (@Cst.heldM (@Cst.heldM (0 : Int) (@Cst.s2 (@groupTo (@SG.s x) (@SG.g x) s))) (0 : Int)) (0 : Int))) ∧ (((@Cst.s3 (@groupTo (@SG.s x) (@SG.g x) s_1)) = (@Cst.heldM (@Cst.heldM (@Cst.heldM (0 : Int) (@Cst.s3 (@groupTo (@SG.s x) (@SG.g x) s))) (0 : Int)) (0 : Int))) ∧ (((@Cst.s4 (@groupTo (@SG.s x) (@SG.g x) s_1)) = (@Cst.heldM (@Cst.heldM (@Cst.heldM (0 : Int) (@Cst.s4 (@groupTo (@SG.s x) (@SG.g x) s))) (0 : Int)) (@linesM x_1))) ∧
 (((@Cst.s5 (@groupTo (@SG.s x) (@SG.g x) s_1)) = (@Cst.heldM (@Cst.heldM (@Cst.heldM (0 : Int) (@Cst.s5 (@groupTo (@SG.s x) (@SG.g x) s))) (0 : Int)) (0 : Int))) ∧ True)))))) ∧ (groupVC_1 x)))))))))))))))))))))) (∃ (y : Unit), (True ∧ ((((@Cst.s0 (@groupTo (@SG.s x) (@SG.g x) (@SG.n x))) = (@Cst.s0 (@groupTo (@SG.s x) (@SG.g x) s))) ∧ (((@Cst.s1 (@groupTo (@SG.s x) (@SG.g x) (@SG.n x))) = (@Cst.s1 (@groupTo (@SG.s x) (@SG.g x) s))) ∧ (((@Cst.s2 (@groupTo (@SG.s x) (@SG.g x) (@SG.n x))) = (@Cst.s2 (@groupTo (@SG.s x) (@SG.g x) s))) ∧ (((@Cst.s3 (@groupTo (@SG.s x) (@SG.g x) (@SG.n x))) = (@Cst.s3 (@groupTo (@SG.s x) (@SG.g x) s))) ∧ (((@Cst.s4 (@groupTo (@SG.s x) (@SG.g x) (@SG.n x))) = (@Cst.s4 (@groupTo (@SG.s x) (@SG.g x) s))) ∧ (((@Cst.s5 (@groupTo (@SG.s x) (@SG.g x) (@SG.n x))) = (@Cst.s5 (@groupTo (@SG.s x) (@SG.g x) s))) ∧ True)))))) ∧ ((((rowP (@SG.s x)) = (rowP (@SG.s x))) ∧ (Bool.true = Bool.true)) ∧ ((((@rowQ (@SG.s x)) = (@rowQ (@SG.s x))) ∧ (Bool.true = Bool.true)) ∧ ((groupVC_3 x) ∧ True))))))))) ∧ True))
theorem groupVC_ok (x : SG) : groupVC x = groupVC_wp x := by kernel_rfl
end Go.Proofs.Ytjndgegfonhhfaa
end
section
/- Costs of calls: what is asked is so. -/
namespace Go.Proofs.Ytjndgegfonhhfaa
open Go SE
theorem linesM_le (n : Int) : 0 ≤ linesM n ∧ linesM n ≤ 8 := by
  unfold linesM
  rcases needM_cases n with h | h | h | h | h | h
  · rw [h.2]; decide
  · rw [h.2.2]; decide
  · rw [h.2.2]; decide
  · rw [h.2.2]; decide
  · rw [h.2.2]; decide
  · rw [h.2]; decide
theorem held_small {a b : Int} (h1 : 0 ≤ a) (h2 : 0 ≤ b) (h3 : a + b ≤ 1099511627776) : Cst.heldM a b = a + b := by unfold Cst.heldM Cst.maxCost imin imax; grind
theorem held0 {b : Int} (h1 : 0 ≤ b) (h2 : b ≤ 1099511627776) : Cst.heldM 0 b = b := by unfold Cst.heldM Cst.maxCost imin imax; grind
theorem held_assoc {a b c : Int} (h : Cst.okI a) (hb : 0 ≤ b) (hc : 0 ≤ c) : Cst.heldM (Cst.heldM a b) c = Cst.heldM a (b + c) := by unfold Cst.okI Cst.heldM Cst.maxCost imin imax at *; grind
theorem findM_le (s : Shf) (key : BA) (h : s.n ≤ 40) : 1 ≤ findM s key ∧ findM s key ≤ 41 := by
  have := cntM_le (nearM s key) s.n
  unfold findM; omega
theorem writeVC_true (n : Int) : writeVC n := by
  unfold writeVC
  simp only [hd_iff, and_true, true_and, Nat.zero_add, Nat.add_zero, unit_ex, unit_all, true_implies, implies_true, Int.toNat_natCast, eq_self, and_self]
  have := linesM_le n
  have e : spanM (needM n) = linesM n := rfl
  refine ⟨n, rfl, needM n, rfl, ?_⟩
  rw [e]
  have i : I64 (linesM n + 1) := by unfold I64; omega
  exact ⟨i, i, rfl, rfl, rfl⟩
theorem rwriteVC_true (n : Int) : rwriteVC n := by
  unfold rwriteVC
  simp only [hd_iff, and_true, true_and, Nat.zero_add, Nat.add_zero, unit_ex, unit_all, true_implies, implies_true, Int.toNat_natCast, eq_self, and_self]
  have := linesM_le n
  have e : spanM (needM n) = linesM n := rfl
  have i : I64 (spanM (needM n) + 1) := by rw [e]; unfold I64; omega
  exact ⟨n, rfl, needM n, rfl, i, n, rfl, needM n, rfl, i, n, rfl, needM n, rfl, rfl, rfl, rfl⟩
theorem putVC_true (x : SP) (hx : x.ok) : putVC x := by
  unfold putVC
  simp only [putVC_6, putVC_8, putVC_9, putVC_11, putVC_1, putVC_2, putVC_7, putVC_10, putVC_3, putVC_4, putVC_5, putVC_12]
  simp only [hd_iff, and_true, true_and, Nat.zero_add, Nat.add_zero, unit_ex, unit_all, true_implies, implies_true, Int.toNat_natCast, eq_self, and_self]
  have hl := linesM_le (x.key.size + x.value.size : Nat)
  have hf := findM_le x.s x.key hx.1.1
  have hk : SK.ok ⟨x.s, x.key⟩ := ⟨hx.1, hx.2.1⟩
  have e1 : Cst.heldM (Cst.heldM 0 (linesM (x.key.size + x.value.size : Nat) + 1)) (findM x.s x.key) = linesM (x.key.size + x.value.size : Nat) + 1 + findM x.s x.key := by
    rw [held0 (by omega) (by omega), held_small (by omega) (by omega) (by omega)]; try omega
  have e3 : Cst.heldM (Cst.heldM 0 (linesM (x.key.size + x.value.size : Nat) + 1)) 0 = linesM (x.key.size + x.value.size : Nat) + 1 := by
    rw [held0 (by omega) (by omega), held_small (by omega) (by omega) (by omega)]; try omega
  have e4 : Cst.heldM (Cst.heldM 0 (linesM (x.key.size + x.value.size : Nat))) 0 = linesM (x.key.size + x.value.size : Nat) := by
    rw [held0 (by omega) (by omega), held_small (by omega) (by omega) (by omega)]; try omega
  refine ⟨by have := hx.2.1; have := hx.2.2.1; unfold I64; omega, ((x.key.size + x.value.size : Nat) : Int), by omega, ⟨x.s, x.key⟩, hk, ⟨⟨rfl, rfl⟩, rfl⟩, ⟨⟨rfl, fun _ _ => rfl⟩, rfl, fun _ _ => rfl⟩, by simp, ⟨x.s, x.key⟩, hk, ⟨⟨rfl, rfl⟩, rfl⟩, ⟨⟨rfl, fun _ _ => rfl⟩, rfl, fun _ _ => rfl⟩, ?_⟩
  dsimp only
  rw [e1, e3, e4]
  refine cP_intro (fun h => ⟨by omega, rfl, rfl, by rw [h]; rfl⟩) (fun h => ⟨by omega, rfl, rfl, by rw [h]; rfl⟩)
theorem part3 (s : Shf) (key v : BA) (e : Int) : partM s 3 key v e = bif hadM s key then ⟨2 + e + findM s key, 2, 0, 0, 1, 1⟩ else ⟨findM s key, 0, 0, 0, 0, 0⟩ := rfl
theorem delVC_true (x : SK) (hx : x.ok) : delVC x := by
  unfold delVC
  simp only [hd_iff, and_true, true_and, Nat.zero_add, Nat.add_zero, unit_ex, unit_all, true_implies, implies_true, Int.toNat_natCast, eq_self, and_self]
  have hf := findM_le x.s x.key hx.n
  refine ⟨x, hx, ⟨⟨rfl, rfl⟩, rfl⟩, ⟨⟨rfl, fun _ _ => rfl⟩, rfl, fun _ _ => rfl⟩, x, hx, ⟨⟨rfl, rfl⟩, rfl⟩, ⟨⟨rfl, fun _ _ => rfl⟩, rfl, fun _ _ => rfl⟩, ?_⟩
  rw [part3]
  have e1 : Cst.heldM (Cst.heldM 0 (findM x.s x.key)) 2 = 2 + 0 + findM x.s x.key := by
    rw [held0 (by omega) (by omega), held_small (by omega) (by omega) (by omega)]; try omega
  refine cP_intro (fun h => ?_) (fun h => ?_)
  · rw [h]; simp [e1]
  · rw [h]; simp
theorem partVC_true (x : SP) (hx : x.ok) : partVC x := by
  unfold partVC
  simp only [hd_iff, and_true, true_and, Nat.zero_add, Nat.add_zero, unit_ex, unit_all, true_implies, implies_true, Int.toNat_natCast, eq_self, and_self, SP.pt]
  have hf := findM_le x.s x.key hx.1.1
  have hk : SK.ok ⟨x.s, x.key⟩ := ⟨hx.1, hx.2.1⟩
  have he := hx.2.2.2
  have hl := linesM_le (x.key.size + x.value.size : Nat)
  have hv := linesM_le (x.value.size : Nat)
  refine ⟨⟨x.s, x.key⟩, hk, ⟨⟨rfl, rfl⟩, rfl⟩, ⟨⟨rfl, fun _ _ => rfl⟩, rfl, fun _ _ => rfl⟩, cP_intro (fun h2 => ?_) (fun h2 => cP_intro (fun h3 => ?_) (fun h3 => cP_intro (fun h4 => ?_) (fun h4 => ?_)))⟩
  · have h2 : x.kind = 2 := by simpa using h2
    refine ⟨by have := hx.2.1; have := hx.2.2.1; unfold I64; omega, ((x.key.size + x.value.size : Nat) : Int), by omega, ⟨x.s, x.key⟩, hk, ⟨⟨rfl, rfl⟩, rfl⟩, ⟨⟨rfl, fun _ _ => rfl⟩, rfl, fun _ _ => rfl⟩, by unfold I64; dsimp only; omega, by unfold I64; dsimp only; omega, ?_⟩
    have ep : partM x.s x.kind x.key x.value x.e = ⟨linesM (x.key.size + x.value.size : Nat) + 1 + findM x.s x.key + x.e, linesM (x.key.size + x.value.size : Nat) + 1, 0, 0, linesM (x.key.size + x.value.size : Nat), b2i (hadM x.s x.key)⟩ := by rw [h2]; rfl
    rw [ep]
    refine cP_intro (fun h => ⟨rfl, rfl, rfl, rfl, rfl, by dsimp only at h ⊢; rw [h]; rfl⟩) (fun h => ⟨rfl, rfl, rfl, rfl, rfl, by dsimp only at h ⊢; rw [h]; rfl⟩)
  · have h3 : x.kind = 3 := by simpa using h3
    rw [h3, part3]
    refine cP_intro (fun h => ?_) (fun h => ?_)
    · dsimp only at h
      rw [h]
      exact ⟨by unfold I64; omega, ⟨x.s, x.key⟩, hk, ⟨⟨rfl, rfl⟩, rfl⟩, ⟨⟨rfl, fun _ _ => rfl⟩, rfl, fun _ _ => rfl⟩, by unfold I64; dsimp only; omega, rfl, rfl, rfl, rfl, rfl, rfl⟩
    · dsimp only at h
      rw [h]
      exact ⟨⟨x.s, x.key⟩, hk, ⟨⟨rfl, rfl⟩, rfl⟩, ⟨⟨rfl, fun _ _ => rfl⟩, rfl, fun _ _ => rfl⟩, by unfold I64; dsimp only; omega, (Int.zero_add _).symm, rfl, rfl, rfl, rfl, rfl⟩
  · have h4 : x.kind = 4 := by simpa using h4
    rw [h4]
    exact ⟨_, rfl, by unfold I64; omega, rfl, rfl, rfl, rfl, rfl, rfl⟩
  · have h2 : x.kind ≠ 2 := by simpa using h2
    have h3 : x.kind ≠ 3 := by simpa using h3
    have h4 : x.kind ≠ 4 := by simpa using h4
    have : partM x.s x.kind x.key x.value x.e = Cst.zero := by simp [partM, h2, h3, h4]
    rw [this]
    exact ⟨rfl, rfl, rfl, rfl, rfl, rfl⟩
theorem groupTo_ok (s : Shf) (g : Nat → Mem) : ∀ n, (groupTo s g n).ok
  | 0 => by unfold groupTo Cst.ok Cst.okI Cst.maxCost; simp
  | n + 1 => Cst.add_ok (groupTo_ok s g n)
theorem part4 (s : Shf) (key v : BA) (e : Int) : partM s 4 key v e = ⟨linesM (v.size : Nat) + 1 + 1, linesM (v.size : Nat) + 1, 0, 0, linesM (v.size : Nat), 0⟩ := rfl
theorem part2 (s : Shf) (key v : BA) (e : Int) : partM s 2 key v e = ⟨linesM (key.size + v.size : Nat) + 1 + findM s key + e, linesM (key.size + v.size : Nat) + 1, 0, 0, linesM (key.size + v.size : Nat), b2i (hadM s key)⟩ := rfl
theorem groupVC_true (x : SG) (hx : x.ok) : groupVC x := by
  unfold groupVC
  simp only [groupVC_3, groupVC_1, groupVC_2]
  simp only [hd_iff, and_true, true_and, Nat.zero_add, Nat.add_zero, unit_ex, unit_all, true_implies, implies_true, Int.toNat_natCast, eq_self, and_self]
  obtain ⟨hs, hn, hg⟩ := hx
  refine ⟨⟨0, by omega, rfl, rfl, rfl, rfl, rfl, rfl, rfl⟩, fun i hi => cP_intro (fun hb => ?_) (fun hb => ?_)⟩
  · have hb := of_decide_eq_true hb
    have hl : i < x.n := by omega
    obtain ⟨hm, hk⟩ := hg i hl
    obtain ⟨k0, k1, k2, k3, k4, k5⟩ := groupTo_ok x.s x.g i
    have z : ∀ {a : Int}, Cst.okI a → Cst.heldM 0 a = a := fun h => held0 h.1 h.2
    have hadd : groupTo x.s x.g (i + 1) = Cst.add (groupTo x.s x.g i) (partM x.s (x.g i).kind (x.g i).key (x.g i).value 0) := rfl
    simp only [z k0, z k1, z k2, z k3, z k4, z k5]
    refine ⟨⟨by omega, hb⟩, hl, cP_intro (fun h2 => ?_) (fun h2 => cP_intro (fun h3 => ?_) (fun h3 => ?_))⟩
    · have h2 : (x.g i).kind = 2 := by simpa using h2
      rw [h2, part2] at hadd
      exact ⟨⟨x.s, (x.g i).kind, (x.g i).key, (x.g i).value, (x.g i).to, 0⟩, ⟨hs, hm.1, hm.2.1, .inl rfl⟩, ⟨⟨rfl, rfl⟩, rfl, rfl, rfl, rfl⟩, ⟨⟨rfl, fun _ _ => rfl⟩, rfl, fun _ _ => rfl⟩, by simp, by unfold I64; omega, i + 1, by omega, by omega, rfl, by rw [hadd]; rfl, by rw [hadd]; rfl, by rw [hadd]; rfl, by rw [hadd]; rfl, by rw [hadd]; rfl, by rw [hadd]; rfl⟩
    · have h3 : (x.g i).kind = 3 := by simpa using h3
      rw [h3] at hadd
      have e : partM x.s 3 (x.g i).key (x.g i).value 0 = partM x.s 3 (x.g i).key (x.g i).key 0 := rfl
      rw [e] at hadd
      exact ⟨⟨x.s, (x.g i).key⟩, ⟨hs, hm.1⟩, ⟨⟨rfl, rfl⟩, rfl⟩, ⟨⟨rfl, fun _ _ => rfl⟩, rfl, fun _ _ => rfl⟩, by simp, by unfold I64; omega, i + 1, by omega, by omega, rfl, by rw [hadd]; rfl, by rw [hadd]; rfl, by rw [hadd]; rfl, by rw [hadd]; rfl, by rw [hadd]; rfl, by rw [hadd]; rfl⟩
    · have h2 : (x.g i).kind ≠ 2 := by simpa using h2
      have h3 : (x.g i).kind ≠ 3 := by simpa using h3
      have h4 : (x.g i).kind = 4 := by
        simp only [groupedM, Bool.or_eq_true, decide_eq_true_eq] at hk
        omega
      rw [h4, part4] at hadd
      have hL := linesM_le ((x.g i).value.size : Nat)
      exact ⟨_, rfl, by simp, by unfold I64; omega, i + 1, by omega, by omega, rfl, by rw [hadd, held_assoc k0 (by omega) (by omega)]; simp only [Cst.add]; congr 1; omega, by rw [hadd, held_assoc k1 (by omega) (by omega)]; simp only [Cst.add]; congr 1; omega, by rw [hadd, held_assoc k2 (by omega) (by omega)]; rfl, by rw [hadd, held_assoc k3 (by omega) (by omega)]; rfl, by rw [hadd, held_assoc k4 (by omega) (by omega)]; simp only [Cst.add]; congr 1; omega, by rw [hadd, held_assoc k5 (by omega) (by omega)]; rfl⟩
  · have : i = x.n := by have := of_decide_eq_false hb; omega
    subst this
    exact ⟨rfl, rfl, rfl, rfl, rfl, rfl⟩
theorem write_ok : CtrOk Try.prog 40 writeC := det_end tt_ok mixed tblN_ok (fun _ => noAn) 200 5 (fun _ => rfl) (fun _ => rfl) fun x _ => Eq.mp (writeVC_ok x) (writeVC_true x)
theorem rwrite_ok : CtrOk Try.prog 77 writeC := det_end tt_ok mixed tblN_ok (fun _ => noAn) 200 5 (fun _ => rfl) (fun _ => rfl) fun x _ => Eq.mp (rwriteVC_ok x) (rwriteVC_true x)
theorem tblW_ok : TblOk Try.prog tblW := .cons (ctrT_ok write_ok) (.cons (ctrT_ok rwrite_ok) (.cons (ctrT_ok find_ok) (.cons (ctrT_ok rfind_ok) (.cons (ctrT_ok get_ok) (.cons (ctrT_ok rget_ok) (.cons (sumT_of sum_sp) .nil))))))
theorem put_ok : CtrOk Try.prog 38 putC := det_end tt_ok mixed tblW_ok (fun _ => noAn) 200 5 (fun _ => rfl) (fun _ => rfl) fun x hx => Eq.mp (putVC_ok x) (putVC_true x (hd_iff.1 hx))
theorem del_ok : CtrOk Try.prog 39 delC := det_end tt_ok mixed tblW_ok (fun _ => noAn) 200 5 (fun _ => rfl) (fun _ => rfl) fun x hx => Eq.mp (delVC_ok x) (delVC_true x (hd_iff.1 hx))
theorem part_ok : CtrOk Try.prog 48 partC := det_end tt_ok mixed tblW_ok (fun _ => noAn) 200 5 (fun _ => rfl) (fun _ => rfl) fun x hx => Eq.mp (partVC_ok x) (partVC_true x (hd_iff.1 hx))
theorem group_ok : CtrOk Try.prog 42 groupC := det_end tt_ok mixed (.cons (ctrT_ok put_ok) (.cons (ctrT_ok del_ok) tblW_ok)) anGroup 200 5 (fun _ => rfl) (fun _ => rfl) fun x hx => Eq.mp (groupVC_ok x) (groupVC_true x (hd_iff.1 hx))
end Go.Proofs.Ytjndgegfonhhfaa
end
section
/- Ranges of a store: contracts. -/
namespace Go.Proofs.Ytjndgegfonhhfaa
open Go SE
noncomputable section
theorem isExt_cmp : IsExt Try.prog 129 Extern.BytealgCompare.compare := ⟨Try.f129, by kernel_rfl, by kernel_rfl, by kernel_rfl, by kernel_rfl, by kernel_rfl⟩
def tblX : WTbl := [(129, cmpX)]
theorem tblX_ok : TblOk Try.prog tblX := .consX (cmpX_ok isExt_cmp) .nil
/-- A list of pairs, a list of texts: that may be none. -/
structure ZP where
  z : Bool
  n : Nat
  pk : Nat → BA
  pv : Nat → BA
def ZP.row (x : ZP) : Cs := .row 2 x.n (fun k => [.string (x.pk k), .string (x.pv k)]) []
structure ZQ where
  z : Bool
  n : Nat
  qv : Nat → BA
def ZQ.row (x : ZQ) : Cs := .row 1 x.n (fun k => [.string (x.qv k)]) []
def nilS : AV := .lit (.slice none 0 0)
def clonePC : Ctr := { X := ZP, args := fun x => [.slZ x.z 0 0 2 x.n], k := 1, os := fun x => [.ro x.row], pre := fun x => x.n < 1099511627776, outs := [{ Y := Unit, post := fun x _ => x.z = true, ret := fun _ _ => nilS, m := 1, os := fun x _ => [.ro x.row] }, { Y := Unit, post := fun x _ => x.z = false, ret := fun x _ => .slW 1 0 2 x.n, m := 2, os := fun x _ => [.ro x.row, .room 73 x.row] }] }
def cloneQC : Ctr := { X := ZQ, args := fun x => [.slZ x.z 0 0 1 x.n], k := 1, os := fun x => [.ro x.row], pre := fun x => x.n < 1099511627776, outs := [{ Y := Unit, post := fun x _ => x.z = true, ret := fun _ _ => nilS, m := 1, os := fun x _ => [.ro x.row] }, { Y := Unit, post := fun x _ => x.z = false, ret := fun x _ => .slW 1 0 1 x.n, m := 2, os := fun x _ => [.ro x.row, .room 9 x.row] }] }
def copiedC : Ctr := { X := Shf, args := fun s => [s.avZ 0 1], k := 2, os := Shf.os, pre := fun s => Hd s.small, outs := [
  { Y := Unit, post := fun s _ => s.zp = true ∧ s.zq = true, ret := fun _ _ => .agg [nilS, nilS], m := 2, os := fun s _ => s.os },
  { Y := Unit, post := fun s _ => s.zp = true ∧ s.zq = false, ret := fun s _ => .agg [nilS, .slW 2 0 1 s.m], m := 3, os := fun s _ => s.os ++ [.room 9 (rowQ s)] },
  { Y := Unit, post := fun s _ => s.zp = false ∧ s.zq = true, ret := fun s _ => .agg [.slW 2 0 2 s.n, nilS], m := 3, os := fun s _ => s.os ++ [.room 73 (rowP s)] },
  { Y := Unit, post := fun s _ => s.zp = false ∧ s.zq = false, ret := fun s _ => .agg [.slW 2 0 2 s.n, .slW 3 0 1 s.m], m := 4, os := fun s _ => s.os ++ [.room 73 (rowP s), .room 9 (rowQ s)] }] }
structure SC where
  s : Shf
  c : Cll
def SC.ok (x : SC) : Prop := x.s.small ∧ x.s.wf ∧ x.c.small
def SC.os (x : SC) : List AObj := [.ro (rowP x.s), .ro (rowQ x.s), .ro (rowG x.c)]
/-- The pairs of a range, among the first i. -/
def selL (s : Shf) (key to : BA) : Nat → List Nat
  | 0 => []
  | i + 1 => bif inM s key to i then selL s key to i ++ [i] else selL s key to i
def selRow (s : Shf) (L : List Nat) : Cs := .row 2 L.length (fun k => [.string (s.pk (L.getD k 0)), .string (s.pv (L.getD k 0))]) []
def es : BA := ByteArray.mk #[]
def ansV (code : Int) (found : Bool) (v : BA) (pairs hits : AV) : AV := .agg [i64 code, boo found, str v, pairs, hits, .lit (.int .u64 0)]
def zAns : AV := ansV 0 false es nilS nilS
def ansL (pairs : AV) : List AV := [i64 0, boo false, str es, pairs, nilS, .lit (.int .u64 0)]
structure SK2 where
  s : Shf
  key : BA
  to : BA
def SK2.ok (x : SK2) : Prop := x.s.small ∧ x.key.size ≤ 1500 ∧ x.to.size ≤ 1500
def SK2.sel (x : SK2) : List Nat := selL x.s x.key x.to x.s.n
def scanArgs (x : SK2) (v : BA) : List AV := [.ptr 0 0, .agg [i64 6, str x.key, str v, str x.to, .any], .ptr 1 0]
/-- Of none. -/
def scanNC : Ctr := det (SK2 × BA) (fun x => scanArgs x.1 x.2) 2 (fun _ => [.ro (.av [nilS, .any]), .cells 45 (.av (ansL nilS))]) (fun _ => True) (fun _ => .tup []) 2 (fun _ => [.ro (.av [nilS, .any]), .cells 45 (.av (ansL nilS))])
def scanC : Ctr := { X := SK2 × BA, args := fun x => scanArgs x.1 x.2, k := 3, os := fun x => [.ro (.av [.slR 2 0 2 x.1.s.n, .any]), .cells 45 (.av (ansL nilS)), .ro (rowP x.1.s)], pre := fun x => Hd x.1.ok, outs := [
  { Y := Unit, post := fun x _ => Hd (x.1.sel = []), ret := fun _ _ => .tup [], m := 3, os := fun x _ => [.ro (.av [.slR 2 0 2 x.1.s.n, .any]), .cells 45 (.av (ansL nilS)), .ro (rowP x.1.s)] },
  { Y := Unit, post := fun _ _ => True, ret := fun _ _ => .tup [], m := 4, os := fun x _ => [.ro (.av [.slR 2 0 2 x.1.s.n, .any]), .cells 45 (.av (ansL (.slW 3 0 2 x.1.sel.length))), .ro (rowP x.1.s), .room 73 (selRow x.1.s x.1.sel)] }] }
def applyScanC : Ctr := { X := SC, args := fun x => [x.s.avZ 0 1, .agg [i64 6, str x.c.key, str x.c.value, str x.c.to, .slR 2 0 5 x.c.gn]], k := 3, os := SC.os, pre := fun x => Hd (x.ok ∧ x.c.kind = 6 ∧ goodM x.c = 0), outs := [
  { Y := Unit, post := fun x _ => Hd (selL x.s x.c.key x.c.to x.s.n = []), ret := fun x _ => .tup [.agg [.one, .one], zAns], m := 3, os := fun x _ => x.os },
  { Y := Unit, post := fun x _ => True, ret := fun x _ => .tup [.agg [.one, .one], ansV 0 false es (.slW 3 0 2 (selL x.s x.c.key x.c.to x.s.n).length) nilS], m := 4, os := fun x _ => x.os ++ [.room 73 (selRow x.s (selL x.s x.c.key x.c.to x.s.n))] }] }
def idAt (fr : Fr) (t : Nat) : Nat := match SE.look fr t with
  | AV.ptr i _ => i
  | _ => 0
def anScan (x : SK2) : FuncId → Anns := fun f => bif Nat.beq f 93 then (fun b fr h => bif Nat.beq b 0 then
  [{ σ := Nat, fr := fun i => [(13, i64 i)], ob := fun _ => [(1, some (.cells 45 (.av (ansL nilS))))], inv := fun i => i ≤ x.s.n ∧ Hd (selL x.s x.key x.to i = []), meas := fun i => x.s.n - i },
   { σ := Nat, fr := fun i => [(13, i64 i)], ob := fun i => [(1, some (.cells 45 (.av (ansL (.slW h.next 0 2 (selL x.s x.key x.to i).length))))), (h.next, some (.room 73 (selRow x.s (selL x.s x.key x.to i))))], inv := fun i => i ≤ x.s.n, meas := fun i => x.s.n - i, nx := 1 }] else []) else fun _ _ _ => []
def orElseT (A B : WTr) : WTr := fun args h K => A args h K ∨ B args h K
theorem orElseT_ok {P : Program} {f : FuncId} {A B : WTr} (hA : ∀ args h K, A args h K → Sp P f args h K) (hB : ∀ args h K, B args h K → Sp P f args h K) (args : List AV) (h : Heap) (K : AV → Heap → Prop) (hq : orElseT A B args h K) : Sp P f args h K := hq.elim (hA _ _ _) (hB _ _ _)
end
end Go.Proofs.Ytjndgegfonhhfaa
end
