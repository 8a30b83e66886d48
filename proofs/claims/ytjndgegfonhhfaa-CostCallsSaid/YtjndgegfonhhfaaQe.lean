import Derived.Test.YtjndgegfonhhfaaQa
import Derived.Test.YtjndgegfonhhfaaQb
import Derived.Test.YtjndgegfonhhfaaQc
import Derived.Test.YtjndgegfonhhfaaQd
import Derived.Test.YtjndgegfonhhfaaRows
import Derived.KernelRfl
section
/- The words of the cost seat. -/
namespace Go.Proofs.Ytjndgegfonhhfaa
open Go SE
noncomputable def tt : TT := mkTI Try.prog
theorem tt_ok : tt.ok Try.prog := fun _ _ h => h
set_option maxRecDepth 20000
theorem mixed : Try.prog.follows .mixedOrders = true := by kernel_rfl
def i64 (n : Int) : AV := .lit (.int .i64 n)
end Go.Proofs.Ytjndgegfonhhfaa
end
section
/- Sums of texts. -/
namespace Go.Proofs.Ytjndgegfonhhfaa
open Go SE
def x32 (a b : Int) : Int := IntKind.u32.wrap ((BitVec.ofInt 32 a ^^^ BitVec.ofInt 32 b).toNat : Nat)
def bitM (c : Int) : Int := bif decide (c % 2 = 0) then c / 2 else x32 (c / 2) 3988292384
def bitsM (c : Int) : Nat → Int
  | 0 => c
  | k + 1 => bitM (bitsM c k)
def stepM (c x : Int) : Int := bitsM (x32 c x) 8
def crcTo (s : ByteArray) : Nat → Int
  | 0 => 4294967295
  | i + 1 => stepM (crcTo s i) (strAt s i)
noncomputable def textM (s : ByteArray) : Int := hide (x32 (crcTo s s.size) 4294967295)
theorem textM_eq (s : ByteArray) : textM s = x32 (crcTo s s.size) 4294967295 := hide_eq _
def U32 (c : Int) : Prop := 0 ≤ c ∧ c < 4294967296
theorem wrap_u32 (z : Int) : U32 (IntKind.u32.wrap z) := by
  unfold IntKind.wrap U32
  simp [IntKind.bits, IntKind.signed]
  omega
theorem wrap_u32_id {z : Int} (h : U32 z) : IntKind.u32.wrap z = z := by
  unfold IntKind.wrap U32 at *
  simp [IntKind.bits, IntKind.signed]
  omega
theorem x32_U (a b : Int) : U32 (x32 a b) := wrap_u32 _
theorem bitM_U {c : Int} (h : U32 c) : U32 (bitM c) := by
  unfold bitM
  cases decide (c % 2 = 0)
  · exact x32_U _ _
  · unfold U32 at *; simp only [cond_true]; omega
theorem bitsM_U {c : Int} (h : U32 c) : ∀ k, U32 (bitsM c k)
  | 0 => h
  | k + 1 => bitM_U (bitsM_U h k)
theorem crcTo_U (s : ByteArray) : ∀ i, U32 (crcTo s i)
  | 0 => by unfold crcTo U32; omega
  | i + 1 => bitsM_U (x32_U _ _) 8
theorem textM_U (s : ByteArray) : U32 (textM s) := by rw [textM_eq]; exact x32_U _ _
theorem strAt_u8 (s : ByteArray) (k : Nat) : 0 ≤ strAt s k ∧ strAt s k < 256 := by
  unfold strAt
  have := (s.data.toList.getD k 0).toNat_lt
  omega
def u32 (c : Int) : AV := .lit (.int .u32 c)
def stepC : Ctr := det (Int × Int) (fun p => [u32 p.1, .lit (.int .u8 p.2)]) 0 (fun _ => []) (fun p => U32 p.1 ∧ 0 ≤ p.2 ∧ p.2 < 256) (fun p => u32 (stepM p.1 p.2)) 0 (fun _ => [])
def anStep (p : Int × Int) : FuncId → Anns := fun f =>
  bif Nat.beq f 120 then (fun b fr h => bif Nat.beq b 0 then [{ σ := Nat, fr := fun k => [(5, i64 k), (0, u32 (bitsM (x32 p.1 p.2) k))], ob := fun _ => [], inv := fun k => k ≤ 8, meas := fun k => 8 - k }] else []) else
  bif Nat.beq f 121 then (fun b fr h => bif Nat.beq b 0 then [{ σ := Nat, fr := fun k => [(5, i64 k), (0, u32 (bitsM (x32 p.1 p.2) k))], ob := fun _ => [], inv := fun k => k ≤ 8, meas := fun k => 8 - k }] else []) else fun _ _ _ => []
def strV (s : ByteArray) : AV := .lit (.string s)
noncomputable def textC : Ctr := det ByteArray (fun s => [strV s]) 0 (fun _ => []) (fun s => s.size < 1099511627776) (fun s => u32 (textM s)) 0 (fun _ => [])
def anText (s : ByteArray) : FuncId → Anns := fun f =>
  bif Nat.beq f 102 then (fun b fr h => bif Nat.beq b 0 then [{ σ := Nat, fr := fun i => [(7, i64 i), (3, u32 (crcTo s i))], ob := fun _ => [], inv := fun i => i ≤ s.size, meas := fun i => s.size - i }] else []) else
  bif Nat.beq f 106 then (fun b fr h => bif Nat.beq b 0 then [{ σ := Nat, fr := fun i => [(4, i64 i), (3, u32 (crcTo s i))], ob := fun _ => [], inv := fun i => i ≤ s.size, meas := fun i => s.size - i }] else []) else fun _ _ _ => []
end Go.Proofs.Ytjndgegfonhhfaa
end
section
/- What is asked of sums of texts. -/
namespace Go.Proofs.Ytjndgegfonhhfaa
open Go SE
def stepVC_wp (p : Int × Int) : Prop := wpF Try.prog [] tt (anStep p) 200 5 120 (stepC.args p) (hO stepC.k (stepC.os p)) (fun v h' => endsP stepC.k p v h' stepC.outs)
def stepVC (p : Int × Int) : Prop :=
  ((∃ (s : @Nat), ((s ≤ (8 : @Nat)) ∧
  (True ∧
  (((((s : Nat) : @Int) = (0 : @Int)) ∧
  (((@bitsM (@x32 (@Prod.fst @Int @Int p) (@Prod.snd @Int @Int p)) s) = (@IntKind.wrap @IntKind.u32 (((@BitVec.toNat (32 : @Nat) (@HXor.hXor (@BitVec (32 : @Nat)) (@BitVec (32 : @Nat)) (@BitVec (32 : @Nat)) (@instHXorOfXorOp (@BitVec (32 : @Nat)) (@BitVec.instXorOp (32 : @Nat))) (@BitVec.ofInt (32 : @Nat) (@Prod.fst @Int @Int p)) (@BitVec.ofInt (32 : @Nat) (@IntKind.wrap @IntKind.u32 (@Prod.snd @Int @Int p))))) : Nat) : @Int))) ∧
  True)) ∧
  True)))) ∧
  ((∀ (s : @Nat), ((s ≤ (8 : @Nat)) → (cP (decide (((s : Nat) : @Int) < (8 : @Int))) ((@I64 (((s : Nat) : @Int) + (1 : @Int))) ∧
  ((((2 : @Int) = (0 : @Int)) → False) ∧
  (cP (@BEq.beq @Int (@instBEqOfDecidableEq @Int @Int.instDecidableEq) (@Int.tmod (@bitsM (@x32 (@Prod.fst @Int @Int p) (@Prod.snd @Int @Int p)) s) (2 : @Int)) (0 : @Int)) ((((2 : @Int) = (0 : @Int)) → False) ∧
  (∃ (s_1 : @Nat), ((s_1 ≤ (8 : @Nat)) ∧
  ((((8 : @Nat) - s_1) < ((8 : @Nat) - s)) ∧
  (((((s_1 : Nat) : @Int) = (((s : Nat) : @Int) + (1 : @Int))) ∧
  (((@bitsM (@x32 (@Prod.fst @Int @Int p) (@Prod.snd @Int @Int p)) s_1) = (@IntKind.wrap @IntKind.u32 (@Int.tdiv (@bitsM (@x32 (@Prod.fst @Int @Int p) (@Prod.snd @Int @Int p)) s) (2 : @Int)))) ∧
  True)) ∧
  True))))) ((((2 : @Int) = (0 : @Int)) → False) ∧
  (∃ (s_1 : @Nat), ((s_1 ≤ (8 : @Nat)) ∧
  ((((8 : @Nat) - s_1) < ((8 : @Nat) - s)) ∧
  (((((s_1 : Nat) : @Int) = (((s : Nat) : @Int) + (1 : @Int))) ∧
  (((@bitsM (@x32 (@Prod.fst @Int @Int p) (@Prod.snd @Int @Int p)) s_1) = (@IntKind.wrap @IntKind.u32 (((@BitVec.toNat (32 : @Nat) (@HXor.hXor (@BitVec (32 : @Nat)) (@BitVec (32 : @Nat)) (@BitVec (32 : @Nat)) (@instHXorOfXorOp (@BitVec (32 : @Nat)) (@BitVec.instXorOp (32 : @Nat))) (@BitVec.ofInt (32 : @Nat) (@IntKind.wrap @IntKind.u32 (@Int.tdiv (@bitsM (@x32 (@Prod.fst @Int @Int p) (@Prod.snd @Int @Int p)) s) (2 : @Int)))) (@BitVec.ofInt (32 : @Nat) (3988292384 : @Int)))) : Nat) : @Int))) ∧
  True)) ∧
  True)))))))) (∃ (y : Unit), (True ∧
  (((@stepM (@Prod.fst @Int @Int p) (@Prod.snd @Int @Int p)) = (@bitsM (@x32 (@Prod.fst @Int @Int p) (@Prod.snd @Int @Int p)) s)) ∧
  True)))))) ∧
  True))
theorem stepVC_ok (p : Int × Int) : stepVC p = stepVC_wp p := by kernel_rfl
def rstepVC_wp (p : Int × Int) : Prop := wpF Try.prog [] tt (anStep p) 200 5 121 (stepC.args p) (hO stepC.k (stepC.os p)) (fun v h' => endsP stepC.k p v h' stepC.outs)
def rstepVC (p : Int × Int) : Prop :=
  ((∃ (s : @Nat), ((s ≤ (8 : @Nat)) ∧
  (True ∧
  (((((s : Nat) : @Int) = (0 : @Int)) ∧
  (((@bitsM (@x32 (@Prod.fst @Int @Int p) (@Prod.snd @Int @Int p)) s) = (@IntKind.wrap @IntKind.u32 (((@BitVec.toNat (32 : @Nat) (@HXor.hXor (@BitVec (32 : @Nat)) (@BitVec (32 : @Nat)) (@BitVec (32 : @Nat)) (@instHXorOfXorOp (@BitVec (32 : @Nat)) (@BitVec.instXorOp (32 : @Nat))) (@BitVec.ofInt (32 : @Nat) (@Prod.fst @Int @Int p)) (@BitVec.ofInt (32 : @Nat) (@IntKind.wrap @IntKind.u32 (@Prod.snd @Int @Int p))))) : Nat) : @Int))) ∧
  True)) ∧
  True)))) ∧
  ((∀ (s : @Nat), ((s ≤ (8 : @Nat)) → (cP (decide (((s : Nat) : @Int) < (8 : @Int))) ((((2 : @Int) = (0 : @Int)) → False) ∧
  (cP (@BEq.beq @Int (@instBEqOfDecidableEq @Int @Int.instDecidableEq) (@IntKind.wrap @IntKind.u32 (((@BitVec.toNat (32 : @Nat) (@HAnd.hAnd (@BitVec (32 : @Nat)) (@BitVec (32 : @Nat)) (@BitVec (32 : @Nat)) (@instHAndOfAndOp (@BitVec (32 : @Nat)) (@BitVec.instAndOp (32 : @Nat))) (@BitVec.ofInt (32 : @Nat) (@bitsM (@x32 (@Prod.fst @Int @Int p) (@Prod.snd @Int @Int p)) s)) (@BitVec.ofInt (32 : @Nat) (1 : @Int)))) : Nat) : @Int)) (1 : @Int)) ((@I64 (((s : Nat) : @Int) + (1 : @Int))) ∧
  (∃ (s_1 : @Nat), ((s_1 ≤ (8 : @Nat)) ∧
  ((((8 : @Nat) - s_1) < ((8 : @Nat) - s)) ∧
  (((((s_1 : Nat) : @Int) = (((s : Nat) : @Int) + (1 : @Int))) ∧
  (((@bitsM (@x32 (@Prod.fst @Int @Int p) (@Prod.snd @Int @Int p)) s_1) = (@IntKind.wrap @IntKind.u32 (((@BitVec.toNat (32 : @Nat) (@HXor.hXor (@BitVec (32 : @Nat)) (@BitVec (32 : @Nat)) (@BitVec (32 : @Nat)) (@instHXorOfXorOp (@BitVec (32 : @Nat)) (@BitVec.instXorOp (32 : @Nat))) (@BitVec.ofInt (32 : @Nat) (@IntKind.wrap @IntKind.u32 (@Int.tdiv (@bitsM (@x32 (@Prod.fst @Int @Int p) (@Prod.snd @Int @Int p)) s) (2 : @Int)))) (@BitVec.ofInt (32 : @Nat) (3988292384 : @Int)))) : Nat) : @Int))) ∧
  True)) ∧
  True))))) ((@I64 (((s : Nat) : @Int) + (1 : @Int))) ∧
  (∃ (s_1 : @Nat), ((s_1 ≤ (8 : @Nat)) ∧
  ((((8 : @Nat) - s_1) < ((8 : @Nat) - s)) ∧
  (((((s_1 : Nat) : @Int) = (((s : Nat) : @Int) + (1 : @Int))) ∧
  (((@bitsM (@x32 (@Prod.fst @Int @Int p) (@Prod.snd @Int @Int p)) s_1) = (@IntKind.wrap @IntKind.u32 (@Int.tdiv (@bitsM (@x32 (@Prod.fst @Int @Int p) (@Prod.snd @Int @Int p)) s) (2 : @Int)))) ∧
  True)) ∧
  True))))))) (∃ (y : Unit), (True ∧
  (((@stepM (@Prod.fst @Int @Int p) (@Prod.snd @Int @Int p)) = (@bitsM (@x32 (@Prod.fst @Int @Int p) (@Prod.snd @Int @Int p)) s)) ∧
  True)))))) ∧
  True))
theorem rstepVC_ok (p : Int × Int) : rstepVC p = rstepVC_wp p := by kernel_rfl
def textVC_wp (s : ByteArray) : Prop := wpF Try.prog [(120, ctrT stepC)] tt (anText s) 200 5 102 (textC.args s) (hO textC.k (textC.os s)) (fun v h' => endsP textC.k s v h' textC.outs)
def textVC (s : ByteArray) : Prop :=
  ((∃ (s_1 : @Nat), ((s_1 ≤ (@ByteArray.size s)) ∧
  (True ∧
  (((((s_1 : Nat) : @Int) = (0 : @Int)) ∧
  (((@crcTo s s_1) = (4294967295 : @Int)) ∧
  True)) ∧
  True)))) ∧
  ((∀ (s_1 : @Nat), ((s_1 ≤ (@ByteArray.size s)) → (cP (decide (((s_1 : Nat) : @Int) < (((@ByteArray.size s) : Nat) : @Int))) ((((0 : @Int) ≤ ((s_1 : Nat) : @Int)) ∧
  (((s_1 : Nat) : @Int) < (((@ByteArray.size s) : Nat) : @Int))) ∧
  (∃ (x : (@Prod @Int @Int)), (((((0 : @Int) ≤ (@Prod.fst @Int @Int x)) ∧
  ((@Prod.fst @Int @Int x) < (4294967296 : @Int))) ∧
  (((0 : @Int) ≤ (@Prod.snd @Int @Int x)) ∧
  ((@Prod.snd @Int @Int x) < (256 : @Int)))) ∧
  ((((@Prod.fst @Int @Int x) = (@crcTo s s_1)) ∧
  (((@Prod.snd @Int @Int x) = (@strAt s s_1)) ∧
  True)) ∧
  (True ∧
  (∀ (y : Unit), (True → ((@I64 (((s_1 : Nat) : @Int) + (1 : @Int))) ∧
  (∃ (s_2 : @Nat), ((s_2 ≤ (@ByteArray.size s)) ∧
  ((((@ByteArray.size s) - s_2) < ((@ByteArray.size s) - s_1)) ∧
  (((((s_2 : Nat) : @Int) = (((s_1 : Nat) : @Int) + (1 : @Int))) ∧
  (((@crcTo s s_2) = (@stepM (@Prod.fst @Int @Int x) (@Prod.snd @Int @Int x))) ∧
  True)) ∧
  True)))))))))))) (∃ (y : Unit), (True ∧
  (((@textM s) = (@IntKind.wrap @IntKind.u32 (((@BitVec.toNat (32 : @Nat) (@HXor.hXor (@BitVec (32 : @Nat)) (@BitVec (32 : @Nat)) (@BitVec (32 : @Nat)) (@instHXorOfXorOp (@BitVec (32 : @Nat)) (@BitVec.instXorOp (32 : @Nat))) (@BitVec.ofInt (32 : @Nat) (@crcTo s s_1)) (@BitVec.ofInt (32 : @Nat) (4294967295 : @Int)))) : Nat) : @Int))) ∧
  True)))))) ∧
  True))
theorem textVC_ok (s : ByteArray) : textVC s = textVC_wp s := by kernel_rfl
def rtextVC_wp (s : ByteArray) : Prop := wpF Try.prog [(121, ctrT stepC)] tt (anText s) 200 5 106 (textC.args s) (hO textC.k (textC.os s)) (fun v h' => endsP textC.k s v h' textC.outs)
def rtextVC (s : ByteArray) : Prop :=
  ((∃ (s_1 : @Nat), ((s_1 ≤ (@ByteArray.size s)) ∧
  (True ∧
  (((((s_1 : Nat) : @Int) = (0 : @Int)) ∧
  (((@crcTo s s_1) = (4294967295 : @Int)) ∧
  True)) ∧
  True)))) ∧
  ((∀ (s_1 : @Nat), ((s_1 ≤ (@ByteArray.size s)) → (cP (decide (((s_1 : Nat) : @Int) < (((@ByteArray.size s) : Nat) : @Int))) ((((0 : @Int) ≤ ((s_1 : Nat) : @Int)) ∧
  (((s_1 : Nat) : @Int) < (((@ByteArray.size s) : Nat) : @Int))) ∧
  (∃ (x : (@Prod @Int @Int)), (((((0 : @Int) ≤ (@Prod.fst @Int @Int x)) ∧
  ((@Prod.fst @Int @Int x) < (4294967296 : @Int))) ∧
  (((0 : @Int) ≤ (@Prod.snd @Int @Int x)) ∧
  ((@Prod.snd @Int @Int x) < (256 : @Int)))) ∧
  ((((@Prod.fst @Int @Int x) = (@crcTo s s_1)) ∧
  (((@Prod.snd @Int @Int x) = (@strAt s s_1)) ∧
  True)) ∧
  (True ∧
  (∀ (y : Unit), (True → ((@I64 (((s_1 : Nat) : @Int) + (1 : @Int))) ∧
  (∃ (s_2 : @Nat), ((s_2 ≤ (@ByteArray.size s)) ∧
  ((((@ByteArray.size s) - s_2) < ((@ByteArray.size s) - s_1)) ∧
  (((((s_2 : Nat) : @Int) = (((s_1 : Nat) : @Int) + (1 : @Int))) ∧
  (((@crcTo s s_2) = (@stepM (@Prod.fst @Int @Int x) (@Prod.snd @Int @Int x))) ∧
  True)) ∧
  True)))))))))))) (∃ (y : Unit), (True ∧
  (((@textM s) = (@IntKind.wrap @IntKind.u32 (((@BitVec.toNat (32 : @Nat) (@HXor.hXor (@BitVec (32 : @Nat)) (@BitVec (32 : @Nat)) (@BitVec (32 : @Nat)) (@instHXorOfXorOp (@BitVec (32 : @Nat)) (@BitVec.instXorOp (32 : @Nat))) (@BitVec.ofInt (32 : @Nat) (@crcTo s s_1)) (@BitVec.ofInt (32 : @Nat) (4294967295 : @Int)))) : Nat) : @Int))) ∧
  True)))))) ∧
  True))
theorem rtextVC_ok (s : ByteArray) : rtextVC s = rtextVC_wp s := by kernel_rfl
end Go.Proofs.Ytjndgegfonhhfaa
end
section
/- Sums of texts: what is asked is so. -/
namespace Go.Proofs.Ytjndgegfonhhfaa
open Go SE
theorem half {c : Int} (h : U32 c) : Int.tmod c 2 = c % 2 ∧ IntKind.u32.wrap (Int.tdiv c 2) = c / 2 := by
  have e : Int.tdiv c 2 = c / 2 := Int.tdiv_eq_ediv_of_nonneg h.1
  refine ⟨Int.tmod_eq_emod_of_nonneg h.1, ?_⟩
  rw [e]; exact wrap_u32_id (by unfold U32 at *; omega)
theorem and1 (c : Int) : IntKind.u32.wrap (((BitVec.ofInt 32 c &&& BitVec.ofInt 32 1).toNat : Nat) : Int) = c % 2 := by
  have h1 : (BitVec.ofInt 32 c &&& BitVec.ofInt 32 1).toNat = (BitVec.ofInt 32 c).toNat % 2 := by
    rw [BitVec.toNat_and]
    have : (BitVec.ofInt 32 1).toNat = 2 ^ 1 - 1 := rfl
    rw [this, Nat.and_two_pow_sub_one_eq_mod]
  have h2 : ((BitVec.ofInt 32 c).toNat : Int) = c % 4294967296 := by
    rw [BitVec.toNat_ofInt]; omega
  rw [h1, wrap_u32_id (by unfold U32; omega)]
  omega
theorem stepVC_true (p : Int × Int) (hp : U32 p.1 ∧ 0 ≤ p.2 ∧ p.2 < 256) : stepVC p := by
  unfold stepVC
  have hw : IntKind.u32.wrap p.2 = p.2 := wrap_u32_id (by unfold U32; omega)
  have hx : ∀ a b, IntKind.u32.wrap ((BitVec.ofInt 32 a ^^^ BitVec.ofInt 32 b).toNat : Nat) = x32 a b := fun _ _ => rfl
  simp only [and_true, true_and, hw, hx]
  refine ⟨⟨0, by omega, rfl, rfl⟩, fun s hs => cP_intro (fun hb => ?_) (fun hb => ?_)⟩
  · have hb := of_decide_eq_true hb
    obtain ⟨h1, h2⟩ := half (bitsM_U (x32_U p.1 p.2) s)
    rw [h1, h2]
    refine ⟨by unfold I64; omega, by omega, cP_intro (fun hc => ?_) (fun hc => ?_)⟩
    · have hc : bitsM (x32 p.1 p.2) s % 2 = 0 := by simpa using hc
      exact ⟨by omega, s + 1, by omega, by omega, rfl, by simp [bitsM, bitM, hc]⟩
    · have hc : bitsM (x32 p.1 p.2) s % 2 ≠ 0 := by simpa using hc
      exact ⟨by omega, s + 1, by omega, by omega, rfl, by simp only [bitsM, bitM, hc, decide_false, cond_false]⟩
  · have : s = 8 := by have := of_decide_eq_false hb; omega
    subst this
    exact ⟨(), rfl⟩
theorem rstepVC_true (p : Int × Int) (hp : U32 p.1 ∧ 0 ≤ p.2 ∧ p.2 < 256) : rstepVC p := by
  unfold rstepVC
  have hw : IntKind.u32.wrap p.2 = p.2 := wrap_u32_id (by unfold U32; omega)
  have hx : ∀ a b, IntKind.u32.wrap ((BitVec.ofInt 32 a ^^^ BitVec.ofInt 32 b).toNat : Nat) = x32 a b := fun _ _ => rfl
  have ha : ∀ c, IntKind.u32.wrap (((BitVec.ofInt 32 c &&& BitVec.ofInt 32 1).toNat : Nat) : Int) = c % 2 := and1
  simp only [and_true, true_and, hw, hx, ha]
  refine ⟨⟨0, by omega, rfl, rfl⟩, fun s hs => cP_intro (fun hb => ?_) (fun hb => ?_)⟩
  · have hb := of_decide_eq_true hb
    obtain ⟨h1, h2⟩ := half (bitsM_U (x32_U p.1 p.2) s)
    rw [h2]
    refine ⟨by omega, cP_intro (fun hc => ?_) (fun hc => ?_)⟩
    · have hc : bitsM (x32 p.1 p.2) s % 2 = 1 := by simpa using hc
      have hc : bitsM (x32 p.1 p.2) s % 2 ≠ 0 := by omega
      exact ⟨by unfold I64; omega, s + 1, by omega, by omega, rfl, by simp only [bitsM, bitM, hc, decide_false, cond_false]⟩
    · have hc : bitsM (x32 p.1 p.2) s % 2 ≠ 1 := by simpa using hc
      have hc : bitsM (x32 p.1 p.2) s % 2 = 0 := by omega
      exact ⟨by unfold I64; omega, s + 1, by omega, by omega, rfl, by simp [bitsM, bitM, hc]⟩
  · have : s = 8 := by have := of_decide_eq_false hb; omega
    subst this
    exact ⟨(), rfl⟩
theorem step_ok : CtrOk Try.prog 120 stepC := det_end tt_ok mixed TblOk.nil anStep 200 5 (fun _ => rfl) (fun _ => rfl) fun x hx => Eq.mp (stepVC_ok x) (stepVC_true x hx)
theorem rstep_ok : CtrOk Try.prog 121 stepC := det_end tt_ok mixed TblOk.nil anStep 200 5 (fun _ => rfl) (fun _ => rfl) fun x hx => Eq.mp (rstepVC_ok x) (rstepVC_true x hx)
theorem textVC_true (s : ByteArray) (hs : s.size < 1099511627776) : textVC s := by
  unfold textVC
  simp only [and_true, true_and]
  refine ⟨⟨0, by omega, rfl, rfl⟩, fun i hi => cP_intro (fun hb => ?_) (fun hb => ?_)⟩
  · have hb := of_decide_eq_true hb
    refine ⟨⟨by omega, by omega⟩, (crcTo s i, strAt s i), ⟨crcTo_U s i, strAt_u8 s i⟩, ⟨rfl, rfl⟩, fun _ _ => ⟨by unfold I64; omega, i + 1, by omega, by omega, rfl, rfl⟩⟩
  · have : i = s.size := by have := of_decide_eq_false hb; omega
    subst this
    exact ⟨(), textM_eq s⟩
theorem rtextVC_true (s : ByteArray) (hs : s.size < 1099511627776) : rtextVC s := by
  have h := textVC_true s hs
  unfold textVC at h
  unfold rtextVC
  exact h
theorem text_ok : CtrOk Try.prog 102 textC := det_end tt_ok mixed (.cons (ctrT_ok step_ok) .nil) anText 200 5 (fun _ => rfl) (fun _ => rfl) fun x hx => Eq.mp (textVC_ok x) (textVC_true x hx)
theorem rtext_ok : CtrOk Try.prog 106 textC := det_end tt_ok mixed (.cons (ctrT_ok rstep_ok) .nil) anText 200 5 (fun _ => rfl) (fun _ => rfl) fun x hx => Eq.mp (rtextVC_ok x) (rtextVC_true x hx)
end Go.Proofs.Ytjndgegfonhhfaa
end
section
/- Costs and their sums. -/
namespace Go.Proofs.Ytjndgegfonhhfaa
open Go SE
/-- A cost. -/
structure Cst where
  s0 : Int
  s1 : Int
  s2 : Int
  s3 : Int
  s4 : Int
  s5 : Int
deriving DecidableEq
namespace Cst
def cells (x : Cst) : List Value := [.int .i64 x.s0, .int .i64 x.s1, .int .i64 x.s2, .int .i64 x.s3, .int .i64 x.s4, .int .i64 x.s5]
def avs (x : Cst) : List AV := [i64 x.s0, i64 x.s1, i64 x.s2, i64 x.s3, i64 x.s4, i64 x.s5]
def av (x : Cst) : AV := .agg x.avs
def zero : Cst := ⟨0, 0, 0, 0, 0, 0⟩
def maxCost : Int := 1099511627776
def heldM (a b : Int) : Int := a + imin (imax b 0) (maxCost - a)
def add (x y : Cst) : Cst := ⟨heldM x.s0 y.s0, heldM x.s1 y.s1, heldM x.s2 y.s2, heldM x.s3 y.s3, heldM x.s4 y.s4, heldM x.s5 y.s5⟩
def sum (c : Nat → Cst) : Nat → Cst
  | 0 => zero
  | i + 1 => add (sum c i) (c i)
def okI (a : Int) : Prop := 0 ≤ a ∧ a ≤ maxCost
def ok (x : Cst) : Prop := okI x.s0 ∧ okI x.s1 ∧ okI x.s2 ∧ okI x.s3 ∧ okI x.s4 ∧ okI x.s5
end Cst
def rowC (c : Nat → Cst) (n : Nat) : Cs := .row 6 n (fun k => (c k).cells) []
def anSum (c : Nat → Cst) (n : Nat) : FuncId → Anns := fun g => bif Nat.beq g 15 then (fun b fr h => bif Nat.beq b 0 then [{ σ := Nat, fr := fun i => [(8, i64 i)], ob := fun i => [(2, some (.cells 33 (.av (Cst.sum c i).avs)))], inv := fun i => i ≤ n, meas := fun i => n - i }] else []) else fun _ _ _ => []
def anRefSum (c : Nat → Cst) (n : Nat) : FuncId → Anns := fun g => bif Nat.beq g 21 then (fun b fr h => bif Nat.beq b 0 then [{ σ := Nat, fr := fun i => [(4, i64 i)], ob := fun i => [(2, some (.cells 33 (.av (Cst.sum c i).avs)))], inv := fun i => i ≤ n, meas := fun i => n - i }] else []) else fun _ _ _ => []
end Go.Proofs.Ytjndgegfonhhfaa
end
section
/- Calls and stores: plain words. -/
namespace Go.Proofs.Ytjndgegfonhhfaa
open Go SE
noncomputable section
abbrev BA := ByteArray
def lsB (a b : BA) : Bool := Op.bytesLess a.toList b.toList
def eqB (a b : BA) : Bool := a.toList == b.toList
def str (s : BA) : AV := .lit (.string s)
def boo (b : Bool) : AV := .lit (.bool b)
/-- A store: pairs, and what waits. -/
structure Shf where
  pk : Nat → BA
  pv : Nat → BA
  n : Nat
  qv : Nat → BA
  m : Nat
  zp : Bool
  zq : Bool
def rowP (s : Shf) : Cs := .row 2 s.n (fun k => [.string (s.pk k), .string (s.pv k)]) []
def rowQ (s : Shf) : Cs := .row 1 s.m (fun k => [.string (s.qv k)]) []
/-- A call of a group. -/
structure Mem where
  kind : Int
  key : BA
  value : BA
  to : BA
  gp : Option Addr
  gn : Nat
  gc : Nat
def Mem.cells (x : Mem) : List Value := [.int .i64 x.kind, .string x.key, .string x.value, .string x.to, .slice x.gp x.gn x.gc]
def Mem.av (x : Mem) : AV := .agg [i64 x.kind, str x.key, str x.value, str x.to, .lit (.slice x.gp 0 x.gc)]
structure Cll where
  kind : Int
  key : BA
  value : BA
  to : BA
  g : Nat → Mem
  gn : Nat
def rowG (c : Cll) : Cs := .row 5 c.gn (fun k => (c.g k).cells) []
def Cll.av (c : Cll) (i : Nat) : AV := .agg [i64 c.kind, str c.key, str c.value, str c.to, .slR i 0 5 c.gn]
def Shf.av (s : Shf) (i j : Nat) : AV := .agg [.slR i 0 2 s.n, .slR j 0 1 s.m]
def Shf.avZ (s : Shf) (i j : Nat) : AV := .agg [.slZ s.zp i 0 2 s.n, .slZ s.zq j 0 1 s.m]
def Shf.wf (s : Shf) : Prop := (s.zp = true → s.n = 0) ∧ (s.zq = true → s.m = 0)
def Mem.small (x : Mem) : Prop := x.key.size ≤ 1500 ∧ x.value.size ≤ 1500 ∧ x.to.size ≤ 1500 ∧ x.gn = 0
def Cll.small (c : Cll) : Prop := c.key.size ≤ 1500 ∧ c.value.size ≤ 1500 ∧ c.to.size ≤ 1500 ∧ c.gn ≤ 1500 ∧ ∀ k, k < c.gn → (c.g k).small
def Shf.small (s : Shf) : Prop := s.n ≤ 40 ∧ s.m ≤ 40 ∧ (∀ k, k < s.n → (s.pk k).size ≤ 600 ∧ (s.pv k).size ≤ 600) ∧ ∀ k, k < s.m → (s.qv k).size ≤ 600
/-! ### Where a key is -/
def bucketM (s : BA) : Int := textM s % 8
def dbl (c : Int) : Int := c * 2 % 4294967296
def levelM (s : BA) : Int := bif decide (textM s < 2147483648) then 1 else bif decide (dbl (textM s) < 2147483648) then 2 else bif decide (dbl (dbl (textM s)) < 2147483648) then 3 else 4
/-! ### Sizes -/
def spanM (c : Int) : Int := bif decide (c = 0) then 1 else bif decide (c = 1) then 2 else bif decide (c = 2) then 4 else bif decide (c = 3) then 8 else 0
def capM (c : Int) : Int := bif decide (c = 0) then 28 else bif decide (c = 1) then 91 else bif decide (c = 2) then 217 else bif decide (c = 3) then 469 else 0
def needM (n : Int) : Int := bif decide (n < 0) then -1 else bif decide (n ≤ 28) then 0 else bif decide (n ≤ 91) then 1 else bif decide (n ≤ 217) then 2 else bif decide (n ≤ 469) then 3 else -1
def linesM (n : Int) : Int := spanM (needM n)
/-! ### Good calls -/
def keyedM (k : Int) : Bool := decide (k = 1) || decide (k = 2) || decide (k = 3)
def groupedM (k : Int) : Bool := decide (k = 2) || decide (k = 3) || decide (k = 4)
def emp (s : BA) : Bool := eqB s ByteArray.empty
def memOk (g : Nat → Mem) (i : Nat) : Bool := groupedM (g i).kind && !(keyedM (g i).kind && emp (g i).key) && decide (∀ j, j < i → (keyedM (g i).kind && keyedM (g j).kind && eqB (g i).key (g j).key) = false)
def shapeM (c : Cll) : Bool := decide (1 ≤ c.kind ∧ c.kind ≤ 8) && !(keyedM c.kind && emp c.key) && (decide (c.kind ≠ 7) || decide (1 ≤ c.gn ∧ c.gn ≤ 3 ∧ ∀ i, i < c.gn → memOk c.g i = true))
def longK (kind : Int) (key value to : BA) : Bool :=
  bif decide (kind = 1) || decide (kind = 3) then decide ((16 : Int) < (key.size : Nat)) else
  bif decide (kind = 2) then decide ((16 : Int) < (key.size : Nat)) || decide ((400 : Int) < (value.size : Nat)) else
  bif decide (kind = 4) then decide ((400 : Int) < (value.size : Nat)) else
  bif decide (kind = 6) then decide ((16 : Int) < (key.size : Nat)) || decide ((16 : Int) < (to.size : Nat)) else false
def longM (c : Cll) : Bool := longK c.kind c.key c.value c.to || (decide (c.kind = 7) && decide (∃ i, i < c.gn ∧ longK (c.g i).kind (c.g i).key (c.g i).value (c.g i).to = true))
def goodM (c : Cll) : Int := bif shapeM c then bif longM c then 5 else 0 else 1
/-! ### Stores -/
def mayM (s : Shf) : Bool := decide (∀ i, i < s.n → 1 ≤ i → lsB (s.pk (i - 1)) (s.pk i) = true)
/-- The first from i on, of the first n; n: none. -/
def firstM (p : Nat → Bool) (n : Nat) : Nat → Nat → Nat
  | 0, _ => n
  | f + 1, i => bif p i then i else firstM p n f (i + 1)
def placeM (s : Shf) (key : BA) : Nat := firstM (fun i => eqB (s.pk i) key) s.n s.n 0
/-! ### Costs -/
def cntM (p : Nat → Bool) : Nat → Nat
  | 0 => 0
  | i + 1 => bif p i then cntM p i + 1 else cntM p i
def nearM (s : Shf) (key : BA) (i : Nat) : Bool := lsB (s.pk i) key && decide (bucketM (s.pk i) = bucketM key)
def findM (s : Shf) (key : BA) : Int := 1 + (cntM (nearM s key) s.n : Nat)
/-- How many in a row from i on. -/
def runM (p : Nat → Bool) : Nat → Nat → Nat
  | 0, _ => 0
  | f + 1, i => bif p i then runM p f (i + 1) + 1 else 0
def skN (lv : Nat → Int) (level : Int) (a0 : Nat) (n0 : Int) : Nat → Int
  | 0 => n0
  | j + 1 => bif decide (level ≤ lv (a0 + j)) then skN lv level a0 n0 j + 1 else skN lv level a0 n0 j
def skA (lv : Nat → Int) (level : Int) (a0 : Nat) : Nat → Nat
  | 0 => a0
  | j + 1 => bif decide (level ≤ lv (a0 + j)) then a0 + j + 1 else skA lv level a0 j
def skJ (s : Shf) (key : BA) (a0 : Nat) : Nat := runM (fun i => lsB (s.pk i) key) (s.n - a0) a0
def skNx (s : Shf) (key : BA) (level : Int) (a0 : Nat) (n0 : Int) : Int := skN (fun i => levelM (s.pk i)) level a0 (n0 + 1) (skJ s key a0)
def skAx (s : Shf) (key : BA) (level : Int) (a0 : Nat) : Nat := skA (fun i => levelM (s.pk i)) level a0 (skJ s key a0)
/-- Behind k levels: how many steps, and where. -/
def skS (s : Shf) (key : BA) : Nat → Int × Nat
  | 0 => (0, 0)
  | k + 1 => (skNx s key (4 - k) (skS s key k).2 (skS s key k).1, skAx s key (4 - k) (skS s key k).2)
def seekM (s : Shf) (key : BA) : Int := (skS s key 4).1
def inM (s : Shf) (key to : BA) (i : Nat) : Bool := !lsB (s.pk i) key && (emp to || lsB (s.pk i) to)
def scanTo (s : Shf) (key to : BA) (x0 : Int) : Nat → Int
  | 0 => x0
  | i + 1 => bif inM s key to i then scanTo s key to x0 i + 1 + linesM ((s.pk i).size + (s.pv i).size : Nat) else scanTo s key to x0 i
def hadM (s : Shf) (key : BA) : Bool := decide (placeM s key < s.n)
def b2i (b : Bool) : Int := bif b then 1 else 0
/-- What a call costs within a group; e: the steps of its publishing, where it is alone. -/
def partM (s : Shf) (kind : Int) (key value : BA) (e : Int) : Cst :=
  bif decide (kind = 2) then ⟨linesM (key.size + value.size : Nat) + 1 + findM s key + e, linesM (key.size + value.size : Nat) + 1, 0, 0, linesM (key.size + value.size : Nat), b2i (hadM s key)⟩ else
  bif decide (kind = 3) then (bif hadM s key then ⟨2 + e + findM s key, 2, 0, 0, 1, 1⟩ else ⟨findM s key, 0, 0, 0, 0, 0⟩) else
  bif decide (kind = 4) then ⟨linesM (value.size : Nat) + 1 + 1, linesM (value.size : Nat) + 1, 0, 0, linesM (value.size : Nat), 0⟩ else Cst.zero
def groupTo (s : Shf) (g : Nat → Mem) : Nat → Cst
  | 0 => ⟨3, 0, 0, 0, 0, 0⟩
  | i + 1 => Cst.add (groupTo s g i) (partM s (g i).kind (g i).key (g i).value 0)
def two (x : Cst) : Cst := { x with s0 := x.s0 + 2 }
def callM (s : Shf) (c : Cll) : Cst :=
  bif mayM s then bif decide (goodM c = 0) then
    bif decide (c.kind = 1) then ⟨2 + findM s c.key + (bif hadM s c.key then linesM (c.key.size + (s.pv (placeM s c.key)).size : Nat) else 0), 0, 0, 0, 0, 0⟩ else
    bif decide (c.kind = 2) || decide (c.kind = 3) || decide (c.kind = 4) then two (partM s c.kind c.key c.value 1) else
    bif decide (c.kind = 5) then (bif decide (s.m = 0) then ⟨3, 0, 0, 0, 0, 0⟩ else ⟨6 + linesM (s.qv 0).size, 2, 0, 0, 1, 1⟩) else
    bif decide (c.kind = 6) then ⟨scanTo s c.key c.to (3 + seekM s c.key) s.n, 0, 0, 0, 0, 0⟩ else
    bif decide (c.kind = 7) then groupTo s c.g c.gn else Cst.zero
  else ⟨1, 0, 0, 0, 0, 0⟩ else Cst.zero
end
end Go.Proofs.Ytjndgegfonhhfaa
end
section
/- Places, classes: contracts. -/
namespace Go.Proofs.Ytjndgegfonhhfaa
open Go SE
noncomputable section
def noAn : FuncId → Anns := fun _ _ _ _ => []
def bucketC : Ctr := det BA (fun s => [str s]) 0 (fun _ => []) (fun s => s.size < 1099511627776) (fun s => i64 (bucketM s)) 0 (fun _ => [])
def levelC : Ctr := det BA (fun s => [str s]) 0 (fun _ => []) (fun s => s.size < 1099511627776) (fun s => i64 (levelM s)) 0 (fun _ => [])
def spanC : Ctr := det Int (fun c => [i64 c]) 0 (fun _ => []) (fun _ => True) (fun c => i64 (spanM c)) 0 (fun _ => [])
def capC : Ctr := det Int (fun c => [i64 c]) 0 (fun _ => []) (fun _ => True) (fun c => i64 (capM c)) 0 (fun _ => [])
def needC : Ctr := det Int (fun c => [i64 c]) 0 (fun _ => []) (fun _ => True) (fun c => i64 (needM c)) 0 (fun _ => [])
def linesC : Ctr := det Int (fun c => [i64 c]) 0 (fun _ => []) (fun _ => True) (fun c => i64 (linesM c)) 0 (fun _ => [])
def tblT : WTbl := [(102, ctrT textC), (106, ctrT textC)]
theorem tblT_ok : TblOk Try.prog tblT := .cons (ctrT_ok text_ok) (.cons (ctrT_ok rtext_ok) .nil)
end
end Go.Proofs.Ytjndgegfonhhfaa
end
section
/- What is asked of places and classes. -/
namespace Go.Proofs.Ytjndgegfonhhfaa
open Go SE
def bucketVC_wp (s : ByteArray) : Prop := wpF Try.prog tblT tt noAn 200 5 67 (bucketC.args s) (hO bucketC.k (bucketC.os s)) (fun v h' => endsP bucketC.k s v h' bucketC.outs)
def bucketVC (s : ByteArray) : Prop :=
  (∃ (x : @ByteArray), (((@ByteArray.size x) < (1099511627776 : @Nat)) ∧ (((x = s) ∧ True) ∧ (True ∧ (∀ (y : Unit), (True → ((((8 : @Int) = (0 : @Int)) → False) ∧ ((@I64 (@Int.tmod (@textM x) (8 : @Int))) ∧ (∃ (y_1 : Unit), (True ∧ (((@bucketM s) = (@Int.tmod (@textM x) (8 : @Int))) ∧ True)))))))))))
theorem bucketVC_ok (s : ByteArray) : bucketVC s = bucketVC_wp s := by kernel_rfl
def rbucketVC_wp (s : ByteArray) : Prop := wpF Try.prog tblT tt noAn 200 5 74 (bucketC.args s) (hO bucketC.k (bucketC.os s)) (fun v h' => endsP bucketC.k s v h' bucketC.outs)
def rbucketVC (s : ByteArray) : Prop :=
  (∃ (x : @ByteArray), (((@ByteArray.size x) < (1099511627776 : @Nat)) ∧ (((x = s) ∧ True) ∧ (True ∧ (∀ (y : Unit), (True → ((((8 : @Int) = (0 : @Int)) → False) ∧ ((@I64 (@Int.tmod (@textM x) (8 : @Int))) ∧ (∃ (y_1 : Unit), (True ∧ (((@bucketM s) = (@Int.tmod (@textM x) (8 : @Int))) ∧ True)))))))))))
theorem rbucketVC_ok (s : ByteArray) : rbucketVC s = rbucketVC_wp s := by kernel_rfl
def levelVC_wp (s : ByteArray) : Prop := wpF Try.prog tblT tt noAn 200 5 71 (levelC.args s) (hO levelC.k (levelC.os s)) (fun v h' => endsP levelC.k s v h' levelC.outs)
def levelVC (s : ByteArray) : Prop :=
  (∃ (x : @ByteArray), (((@ByteArray.size x) < (1099511627776 : @Nat)) ∧
  (((x = s) ∧
  True) ∧
  (True ∧
  (∀ (y : Unit), (True → ((@I64 (31 : @Int)) ∧
  (((0 : @Int) ≤ (31 : @Int)) ∧
  (cP (@BEq.beq @Int (@instBEqOfDecidableEq @Int @Int.instDecidableEq) (@IntKind.wrap @IntKind.u32 (((@BitVec.toNat (32 : @Nat) (@HAnd.hAnd (@BitVec (32 : @Nat)) (@BitVec (32 : @Nat)) (@BitVec (32 : @Nat)) (@instHAndOfAndOp (@BitVec (32 : @Nat)) (@BitVec.instAndOp (32 : @Nat))) (@BitVec.ofInt (32 : @Nat) (@Int.fdiv (@textM x) (2147483648 : @Int))) (@BitVec.ofInt (32 : @Nat) (1 : @Int)))) : Nat) : @Int)) (0 : @Int)) (∃ (y_1 : Unit), (True ∧
  (((@levelM s) = (1 : @Int)) ∧
  True))) ((@I64 (2 : @Int)) ∧
  ((@I64 (1 : @Int)) ∧
  ((@I64 (30 : @Int)) ∧
  (((0 : @Int) ≤ (30 : @Int)) ∧
  (cP (@BEq.beq @Int (@instBEqOfDecidableEq @Int @Int.instDecidableEq) (@IntKind.wrap @IntKind.u32 (((@BitVec.toNat (32 : @Nat) (@HAnd.hAnd (@BitVec (32 : @Nat)) (@BitVec (32 : @Nat)) (@BitVec (32 : @Nat)) (@instHAndOfAndOp (@BitVec (32 : @Nat)) (@BitVec.instAndOp (32 : @Nat))) (@BitVec.ofInt (32 : @Nat) (@Int.fdiv (@textM x) (1073741824 : @Int))) (@BitVec.ofInt (32 : @Nat) (1 : @Int)))) : Nat) : @Int)) (0 : @Int)) (∃ (y_1 : Unit), (True ∧
  (((@levelM s) = (2 : @Int)) ∧
  True))) ((@I64 (3 : @Int)) ∧
  ((@I64 (2 : @Int)) ∧
  ((@I64 (29 : @Int)) ∧
  (((0 : @Int) ≤ (29 : @Int)) ∧
  (cP (@BEq.beq @Int (@instBEqOfDecidableEq @Int @Int.instDecidableEq) (@IntKind.wrap @IntKind.u32 (((@BitVec.toNat (32 : @Nat) (@HAnd.hAnd (@BitVec (32 : @Nat)) (@BitVec (32 : @Nat)) (@BitVec (32 : @Nat)) (@instHAndOfAndOp (@BitVec (32 : @Nat)) (@BitVec.instAndOp (32 : @Nat))) (@BitVec.ofInt (32 : @Nat) (@Int.fdiv (@textM x) (536870912 : @Int))) (@BitVec.ofInt (32 : @Nat) (1 : @Int)))) : Nat) : @Int)) (0 : @Int)) (∃ (y_1 : Unit), (True ∧
  (((@levelM s) = (3 : @Int)) ∧
  True))) ((@I64 (4 : @Int)) ∧
  ((@I64 (3 : @Int)) ∧
  (∃ (y_1 : Unit), (True ∧
  (((@levelM s) = (4 : @Int)) ∧
  True))))))))))))))))))))))))
theorem levelVC_ok (s : ByteArray) : levelVC s = levelVC_wp s := by kernel_rfl
def rlevelVC_wp (s : ByteArray) : Prop := wpF Try.prog tblT tt noAn 200 5 108 (levelC.args s) (hO levelC.k (levelC.os s)) (fun v h' => endsP levelC.k s v h' levelC.outs)
def rlevelVC (s : ByteArray) : Prop :=
  (∃ (x : @ByteArray), (((@ByteArray.size x) < (1099511627776 : @Nat)) ∧
  (((x = s) ∧
  True) ∧
  (True ∧
  (∀ (y : Unit), (True → (cP (decide (@GE.ge @Int @Int.instLEInt (@textM x) (2147483648 : @Int))) ((@I64 (2 : @Int)) ∧
  (cP (decide (@GE.ge @Int @Int.instLEInt (@IntKind.wrap @IntKind.u32 ((@textM x) * (2 : @Int))) (2147483648 : @Int))) ((@I64 (3 : @Int)) ∧
  (cP (decide (@GE.ge @Int @Int.instLEInt (@IntKind.wrap @IntKind.u32 ((@IntKind.wrap @IntKind.u32 ((@textM x) * (2 : @Int))) * (2 : @Int))) (2147483648 : @Int))) ((@I64 (4 : @Int)) ∧
  (∃ (y_1 : Unit), (True ∧
  (((@levelM s) = (4 : @Int)) ∧
  True)))) (∃ (y_1 : Unit), (True ∧
  (((@levelM s) = (3 : @Int)) ∧
  True))))) (∃ (y_1 : Unit), (True ∧
  (((@levelM s) = (2 : @Int)) ∧
  True))))) (∃ (y_1 : Unit), (True ∧
  (((@levelM s) = (1 : @Int)) ∧
  True))))))))))
theorem rlevelVC_ok (s : ByteArray) : rlevelVC s = rlevelVC_wp s := by kernel_rfl
def spanVC_wp (s : Int) : Prop := wpF Try.prog [] tt noAn 200 5 69 (spanC.args s) (hO spanC.k (spanC.os s)) (fun v h' => endsP spanC.k s v h' spanC.outs)
def spanVC (s : Int) : Prop :=
  (cP (decide (s < (0 : @Int))) (∃ (y : Unit), (True ∧
  (((@spanM s) = (0 : @Int)) ∧
  True))) (cP (decide (@GT.gt @Int @Int.instLTInt s (3 : @Int))) (∃ (y : Unit), (True ∧
  (((@spanM s) = (0 : @Int)) ∧
  True))) (((0 : @Int) ≤ s) ∧
  (∃ (y : Unit), (True ∧
  (((@spanM s) = (@IntKind.wrap @IntKind.i64 ((1 : @Int) * (@HPow.hPow @Int @Nat @Int (@instHPow @Int @Nat (@instPowNat @Int @Int.instNatPow)) (2 : @Int) (@Min.min @Nat @instMinNat (Int.toNat s) (64 : @Nat)))))) ∧
  True))))))
theorem spanVC_ok (s : Int) : spanVC s = spanVC_wp s := by kernel_rfl
def rspanVC_wp (s : Int) : Prop := wpF Try.prog [] tt noAn 200 5 75 (spanC.args s) (hO spanC.k (spanC.os s)) (fun v h' => endsP spanC.k s v h' spanC.outs)
def rspanVC (s : Int) : Prop :=
  (cP (@BEq.beq @Int (@instBEqOfDecidableEq @Int @Int.instDecidableEq) s (0 : @Int)) (∃ (y : Unit), (True ∧
  (((@spanM s) = (1 : @Int)) ∧
  True))) (cP (@BEq.beq @Int (@instBEqOfDecidableEq @Int @Int.instDecidableEq) s (1 : @Int)) (∃ (y : Unit), (True ∧
  (((@spanM s) = (2 : @Int)) ∧
  True))) (cP (@BEq.beq @Int (@instBEqOfDecidableEq @Int @Int.instDecidableEq) s (2 : @Int)) (∃ (y : Unit), (True ∧
  (((@spanM s) = (4 : @Int)) ∧
  True))) (cP (@BEq.beq @Int (@instBEqOfDecidableEq @Int @Int.instDecidableEq) s (3 : @Int)) (∃ (y : Unit), (True ∧
  (((@spanM s) = (8 : @Int)) ∧
  True))) (∃ (y : Unit), (True ∧
  (((@spanM s) = (0 : @Int)) ∧
  True)))))))
theorem rspanVC_ok (s : Int) : rspanVC s = rspanVC_wp s := by kernel_rfl
end Go.Proofs.Ytjndgegfonhhfaa
end
section
/- Places and classes: what is asked is so. -/
namespace Go.Proofs.Ytjndgegfonhhfaa
open Go SE
theorem bucketVC_true (s : BA) (hs : s.size < 1099511627776) : bucketVC s := by
  unfold bucketVC
  have := textM_U s
  have e : Int.tmod (textM s) 8 = textM s % 8 := Int.tmod_eq_emod_of_nonneg this.1
  refine ⟨s, hs, ⟨rfl, trivial⟩, trivial, fun _ _ => ⟨by omega, by rw [e]; unfold I64; omega, (), trivial, e.symm, trivial⟩⟩
theorem bits (c : Int) (h : U32 c) : (Int.fdiv c 2147483648 % 2 = 0 ↔ c < 2147483648) ∧ (Int.fdiv c 1073741824 % 2 = 0 ↔ dbl c < 2147483648) ∧ (Int.fdiv c 536870912 % 2 = 0 ↔ dbl (dbl c) < 2147483648) := by
  unfold U32 dbl at *
  rw [Int.fdiv_eq_ediv_of_nonneg _ (by omega), Int.fdiv_eq_ediv_of_nonneg _ (by omega), Int.fdiv_eq_ediv_of_nonneg _ (by omega)]
  omega
theorem levelVC_true (s : BA) (hs : s.size < 1099511627776) : levelVC s := by
  unfold levelVC
  obtain ⟨b1, b2, b3⟩ := bits _ (textM_U s)
  refine ⟨s, hs, ⟨rfl, trivial⟩, trivial, fun _ _ => ?_⟩
  have ha : ∀ c, IntKind.u32.wrap (((BitVec.ofInt 32 c &&& BitVec.ofInt 32 1).toNat : Nat) : Int) = c % 2 := and1
  simp only [ha, cP_iff, beq_iff_eq, beq_eq_false_iff_ne, I64_iff, unit_ex, true_and, and_true, ne_eq, b1, b2, b3, levelM]
  refine ⟨by omega, by omega, fun h => ?_, fun h => ⟨by omega, by omega, by omega, by omega, fun h2 => ?_, fun h2 => ⟨by omega, by omega, by omega, by omega, fun h3 => ?_, fun h3 => ⟨by omega, by omega, ?_⟩⟩⟩⟩ <;> simp [*]
theorem rlevelVC_true (s : BA) (hs : s.size < 1099511627776) : rlevelVC s := by
  unfold rlevelVC
  refine ⟨s, hs, ⟨rfl, trivial⟩, trivial, fun _ _ => ?_⟩
  have hU := textM_U s
  have hw : ∀ c, U32 c → IntKind.u32.wrap (c * 2) = dbl c ∧ U32 (dbl c) := fun c hc => by
    unfold IntKind.wrap dbl U32 at *
    simp [IntKind.bits, IntKind.signed]
    omega
  obtain ⟨e1, h1⟩ := hw _ hU
  obtain ⟨e2, h2⟩ := hw _ h1
  simp only [e1, e2, cP_iff, decide_eq_true_eq, decide_eq_false_iff_not, I64_iff, unit_ex, true_and, and_true, levelM]
  have hn : ∀ c : Int, c ≥ 2147483648 ↔ ¬ c < 2147483648 := fun c => by omega
  simp only [hn, Classical.not_not]
  refine ⟨fun h => ⟨by omega, fun h2 => ⟨by omega, fun h3 => ⟨by omega, ?_⟩, fun h3 => ?_⟩, fun h2 => ?_⟩, fun h => ?_⟩ <;> simp [*]
theorem spanVC_true (c : Int) : spanVC c := by
  unfold spanVC
  simp only [cP_iff, decide_eq_true_eq, decide_eq_false_iff_not, unit_ex, true_and, and_true, spanM]
  refine ⟨fun h => ?_, fun h => ⟨fun h2 => ?_, fun h2 => ⟨by omega, ?_⟩⟩⟩
  · simp [show c ≠ 0 by omega, show c ≠ 1 by omega, show c ≠ 2 by omega, show c ≠ 3 by omega]
  · simp [show c ≠ 0 by omega, show c ≠ 1 by omega, show c ≠ 2 by omega, show c ≠ 3 by omega]
  · rcases (by omega : c = 0 ∨ c = 1 ∨ c = 2 ∨ c = 3) with rfl | rfl | rfl | rfl <;> rfl
theorem rspanVC_true (c : Int) : rspanVC c := by
  unfold rspanVC
  simp only [cP_iff, beq_iff_eq, beq_eq_false_iff_ne, unit_ex, true_and, and_true, spanM]
  refine ⟨fun h => ?_, fun h => ⟨fun h2 => ?_, fun h2 => ⟨fun h3 => ?_, fun h3 => ⟨fun h4 => ?_, fun h4 => ?_⟩⟩⟩⟩ <;> simp [*]
theorem bucket_ok : CtrOk Try.prog 67 bucketC := det_end tt_ok mixed tblT_ok (fun _ => noAn) 200 5 (fun _ => rfl) (fun _ => rfl) fun x hx => Eq.mp (bucketVC_ok x) (bucketVC_true x hx)
theorem rbucket_ok : CtrOk Try.prog 74 bucketC := det_end tt_ok mixed tblT_ok (fun _ => noAn) 200 5 (fun _ => rfl) (fun _ => rfl) fun x hx => Eq.mp (rbucketVC_ok x) (bucketVC_true x hx)
theorem level_ok : CtrOk Try.prog 71 levelC := det_end tt_ok mixed tblT_ok (fun _ => noAn) 200 5 (fun _ => rfl) (fun _ => rfl) fun x hx => Eq.mp (levelVC_ok x) (levelVC_true x hx)
theorem rlevel_ok : CtrOk Try.prog 108 levelC := det_end tt_ok mixed tblT_ok (fun _ => noAn) 200 5 (fun _ => rfl) (fun _ => rfl) fun x hx => Eq.mp (rlevelVC_ok x) (rlevelVC_true x hx)
theorem span_ok : CtrOk Try.prog 69 spanC := det_end tt_ok mixed TblOk.nil (fun _ => noAn) 200 5 (fun _ => rfl) (fun _ => rfl) fun x _ => Eq.mp (spanVC_ok x) (spanVC_true x)
theorem rspan_ok : CtrOk Try.prog 75 spanC := det_end tt_ok mixed TblOk.nil (fun _ => noAn) 200 5 (fun _ => rfl) (fun _ => rfl) fun x _ => Eq.mp (rspanVC_ok x) (rspanVC_true x)
def tblU : WTbl := [(69, ctrT spanC), (75, ctrT spanC)]
theorem tblU_ok : TblOk Try.prog tblU := .cons (ctrT_ok span_ok) (.cons (ctrT_ok rspan_ok) .nil)
end Go.Proofs.Ytjndgegfonhhfaa
end
section
/- What is asked of sizes. -/
namespace Go.Proofs.Ytjndgegfonhhfaa
open Go SE
def anRNeed (s : Int) : FuncId → Anns := fun f => bif Nat.beq f 76 then (fun b fr h => bif Nat.beq b 0 then [{ σ := Nat, fr := fun i => [(3, i64 i)], ob := fun _ => [], inv := fun i => i ≤ 4 ∧ (s < 0 ∨ ∀ c : Nat, c < i → capM c < s), meas := fun i => 4 - i }] else []) else fun _ _ _ => []
def rcapVC_wp (s : Int) : Prop := wpF Try.prog tblU tt noAn 200 5 107 (capC.args s) (hO capC.k (capC.os s)) (fun v h' => endsP capC.k s v h' capC.outs)
def rcapVC (s : Int) : Prop :=
  (∃ (x : @Int), (True ∧
  (((x = s) ∧
  True) ∧
  (True ∧
  (∀ (y : Unit), (True → (cP (@BEq.beq @Int (@instBEqOfDecidableEq @Int @Int.instDecidableEq) (@spanM x) (0 : @Int)) (∃ (y_1 : Unit), (True ∧
  (((@capM s) = (0 : @Int)) ∧
  True))) ((@I64 ((@spanM x) - (1 : @Int))) ∧
  ((@I64 ((63 : @Int) * ((@spanM x) - (1 : @Int)))) ∧
  ((@I64 ((28 : @Int) + ((63 : @Int) * ((@spanM x) - (1 : @Int))))) ∧
  (∃ (y_1 : Unit), (True ∧
  (((@capM s) = ((28 : @Int) + ((63 : @Int) * ((@spanM x) - (1 : @Int))))) ∧
  True)))))))))))))
theorem rcapVC_ok (s : Int) : rcapVC s = rcapVC_wp s := by kernel_rfl
def capVC_wp (s : Int) : Prop := wpF Try.prog tblU tt noAn 200 5 105 (capC.args s) (hO capC.k (capC.os s)) (fun v h' => endsP capC.k s v h' capC.outs)
def capVC (s : Int) : Prop :=
  (∃ (x : @Int), (True ∧
  (((x = s) ∧
  True) ∧
  (True ∧
  (∀ (y : Unit), (True → (cP (decide (@GT.gt @Int @Int.instLTInt (@spanM x) (0 : @Int))) ((@I64 ((@spanM x) - (1 : @Int))) ∧
  ((@I64 (((@spanM x) - (1 : @Int)) * (63 : @Int))) ∧
  ((@I64 ((28 : @Int) + (((@spanM x) - (1 : @Int)) * (63 : @Int)))) ∧
  (∃ (y_1 : Unit), (True ∧
  (((@capM s) = ((28 : @Int) + (((@spanM x) - (1 : @Int)) * (63 : @Int)))) ∧
  True)))))) (∃ (y_1 : Unit), (True ∧
  (((@capM s) = (0 : @Int)) ∧
  True))))))))))
theorem capVC_ok (s : Int) : capVC s = capVC_wp s := by kernel_rfl
def needVC_wp (s : Int) : Prop := wpF Try.prog [] tt noAn 200 5 70 (needC.args s) (hO needC.k (needC.os s)) (fun v h' => endsP needC.k s v h' needC.outs)
def needVC (s : Int) : Prop :=
  (cP (decide (s < (0 : @Int))) (∃ (y : Unit), (True ∧
  (((@needM s) = (-(1 : @Int))) ∧
  True))) (((0 : @Int) ≤ (0 : @Int)) ∧
  ((@I64 (0 : @Int)) ∧
  ((@I64 (0 : @Int)) ∧
  ((@I64 (28 : @Int)) ∧
  (cP (decide (@GE.ge @Int @Int.instLEInt (28 : @Int) s)) (∃ (y : Unit), (True ∧
  (((@needM s) = (0 : @Int)) ∧
  True))) ((@I64 (1 : @Int)) ∧
  (((0 : @Int) ≤ (1 : @Int)) ∧
  ((@I64 (1 : @Int)) ∧
  ((@I64 (63 : @Int)) ∧
  ((@I64 (91 : @Int)) ∧
  (cP (decide (@GE.ge @Int @Int.instLEInt (91 : @Int) s)) (∃ (y : Unit), (True ∧
  (((@needM s) = (1 : @Int)) ∧
  True))) ((@I64 (2 : @Int)) ∧
  (((0 : @Int) ≤ (2 : @Int)) ∧
  ((@I64 (3 : @Int)) ∧
  ((@I64 (189 : @Int)) ∧
  ((@I64 (217 : @Int)) ∧
  (cP (decide (@GE.ge @Int @Int.instLEInt (217 : @Int) s)) (∃ (y : Unit), (True ∧
  (((@needM s) = (2 : @Int)) ∧
  True))) ((@I64 (3 : @Int)) ∧
  (((0 : @Int) ≤ (3 : @Int)) ∧
  ((@I64 (7 : @Int)) ∧
  ((@I64 (441 : @Int)) ∧
  ((@I64 (469 : @Int)) ∧
  (cP (decide (@GE.ge @Int @Int.instLEInt (469 : @Int) s)) (∃ (y : Unit), (True ∧
  (((@needM s) = (3 : @Int)) ∧
  True))) ((@I64 (4 : @Int)) ∧
  (∃ (y : Unit), (True ∧
  (((@needM s) = (-(1 : @Int))) ∧
  True))))))))))))))))))))))))))))
theorem needVC_ok (s : Int) : needVC s = needVC_wp s := by kernel_rfl
def rneedVC_wp (s : Int) : Prop := wpF Try.prog [(107, ctrT capC)] tt (anRNeed s) 200 5 76 (needC.args s) (hO needC.k (needC.os s)) (fun v h' => endsP needC.k s v h' needC.outs)
def rneedVC (s : Int) : Prop :=
  ((∃ (s_1 : @Nat), (((s_1 ≤ (4 : @Nat)) ∧
  ((s < (0 : @Int)) ∨ (∀ (c : @Nat), ((c < s_1) → ((@capM ((c : Nat) : @Int)) < s))))) ∧
  (True ∧
  (((((s_1 : Nat) : @Int) = (0 : @Int)) ∧
  True) ∧
  True)))) ∧
  ((∀ (s_1 : @Nat), (((s_1 ≤ (4 : @Nat)) ∧
  ((s < (0 : @Int)) ∨ (∀ (c : @Nat), ((c < s_1) → ((@capM ((c : Nat) : @Int)) < s))))) → (cP (decide (((s_1 : Nat) : @Int) < (4 : @Int))) (cP (decide (@GE.ge @Int @Int.instLEInt s (0 : @Int))) (∃ (x : @Int), (True ∧
  (((x = ((s_1 : Nat) : @Int)) ∧
  True) ∧
  (True ∧
  (∀ (y : Unit), (True → (cP (decide (@GE.ge @Int @Int.instLEInt (@capM x) s)) (∃ (y_1 : Unit), (True ∧
  (((@needM s) = ((s_1 : Nat) : @Int)) ∧
  True))) ((@I64 (((s_1 : Nat) : @Int) + (1 : @Int))) ∧
  (∃ (s_2 : @Nat), (((s_2 ≤ (4 : @Nat)) ∧
  ((s < (0 : @Int)) ∨ (∀ (c : @Nat), ((c < s_2) → ((@capM ((c : Nat) : @Int)) < s))))) ∧
  ((((4 : @Nat) - s_2) < ((4 : @Nat) - s_1)) ∧
  (((((s_2 : Nat) : @Int) = (((s_1 : Nat) : @Int) + (1 : @Int))) ∧
  True) ∧
  True)))))))))))) ((@I64 (((s_1 : Nat) : @Int) + (1 : @Int))) ∧
  (∃ (s_2 : @Nat), (((s_2 ≤ (4 : @Nat)) ∧
  ((s < (0 : @Int)) ∨ (∀ (c : @Nat), ((c < s_2) → ((@capM ((c : Nat) : @Int)) < s))))) ∧
  ((((4 : @Nat) - s_2) < ((4 : @Nat) - s_1)) ∧
  (((((s_2 : Nat) : @Int) = (((s_1 : Nat) : @Int) + (1 : @Int))) ∧
  True) ∧
  True)))))) (∃ (y : Unit), (True ∧
  (((@needM s) = (-(1 : @Int))) ∧
  True)))))) ∧
  True))
theorem rneedVC_ok (s : Int) : rneedVC s = rneedVC_wp s := by kernel_rfl
end Go.Proofs.Ytjndgegfonhhfaa
end
section
/- Sizes: what is asked is so. -/
namespace Go.Proofs.Ytjndgegfonhhfaa
open Go SE
theorem spanM_cases (c : Int) : (c = 0 ∧ spanM c = 1 ∧ capM c = 28) ∨ (c = 1 ∧ spanM c = 2 ∧ capM c = 91) ∨ (c = 2 ∧ spanM c = 4 ∧ capM c = 217) ∨ (c = 3 ∧ spanM c = 8 ∧ capM c = 469) ∨ ((c < 0 ∨ 3 < c) ∧ spanM c = 0 ∧ capM c = 0) := by
  by_cases h0 : c = 0
  · subst h0; simp [spanM, capM]
  by_cases h1 : c = 1
  · subst h1; simp [spanM, capM]
  by_cases h2 : c = 2
  · subst h2; simp [spanM, capM]
  by_cases h3 : c = 3
  · subst h3; simp [spanM, capM]
  · simp [spanM, capM, h0, h1, h2, h3]; omega
theorem capVC_true (c : Int) : capVC c := by
  unfold capVC
  refine ⟨c, trivial, ⟨rfl, trivial⟩, trivial, fun _ _ => ?_⟩
  simp only [cP_iff, decide_eq_true_eq, decide_eq_false_iff_not, unit_ex, true_and, and_true, I64_iff]
  have := spanM_cases c
  omega
theorem rcapVC_true (c : Int) : rcapVC c := by
  unfold rcapVC
  refine ⟨c, trivial, ⟨rfl, trivial⟩, trivial, fun _ _ => ?_⟩
  simp only [cP_iff, beq_iff_eq, beq_eq_false_iff_ne, unit_ex, true_and, and_true, I64_iff]
  have := spanM_cases c
  omega
theorem needM_cases (n : Int) : (n < 0 ∧ needM n = -1) ∨ (0 ≤ n ∧ n ≤ 28 ∧ needM n = 0) ∨ (28 < n ∧ n ≤ 91 ∧ needM n = 1) ∨ (91 < n ∧ n ≤ 217 ∧ needM n = 2) ∨ (217 < n ∧ n ≤ 469 ∧ needM n = 3) ∨ (469 < n ∧ needM n = -1) := by
  unfold needM
  by_cases h : n < 0
  · simp [h]
  by_cases h0 : n ≤ 28
  · simp [h, h0]; omega
  by_cases h1 : n ≤ 91
  · simp [h, h0, h1]; omega
  by_cases h2 : n ≤ 217
  · simp [h, h0, h1, h2]; omega
  by_cases h3 : n ≤ 469
  · simp [h, h0, h1, h2, h3]; omega
  · simp [h, h0, h1, h2, h3]; omega
theorem needVC_true (n : Int) : needVC n := by
  unfold needVC
  simp only [cP_iff, decide_eq_true_eq, decide_eq_false_iff_not, unit_ex, true_and, and_true, I64_iff]
  have := needM_cases n
  omega
theorem rneedVC_true (n : Int) : rneedVC n := by
  unfold rneedVC
  simp only [unit_ex, unit_all, true_and, and_true, true_implies]
  have hc : capM 0 = 28 ∧ capM 1 = 91 ∧ capM 2 = 217 ∧ capM 3 = 469 := ⟨rfl, rfl, rfl, rfl⟩
  have hn := needM_cases n
  refine ⟨⟨0, ⟨by omega, .inr fun c hc => by omega⟩, rfl⟩, fun i hi => cP_intro (fun hb => ?_) (fun hb => ?_)⟩
  · have hb := of_decide_eq_true hb
    have hall : 0 ≤ n → ∀ c : Nat, c < i → capM c < n := fun h => hi.2.resolve_left (by omega)
    refine cP_intro (fun h0 => ⟨i, rfl, cP_intro (fun h1 => ?_) (fun h1 => ⟨by unfold I64; omega, i + 1, ⟨by omega, .inr fun c hc => ?_⟩, by omega, by omega⟩)⟩) (fun h0 => ?_)
    · have h0 := of_decide_eq_true h0
      have h1 := of_decide_eq_true h1
      have hall := hall h0
      rcases (by omega : i = 0 ∨ i = 1 ∨ i = 2 ∨ i = 3) with rfl | rfl | rfl | rfl
      · simp only [Int.natCast_zero, hc.1] at h1; omega
      · have := hall 0 (by omega); simp only [Int.natCast_zero, hc.1] at this; simp only [Int.natCast_one, hc.2.1] at h1; omega
      · have := hall 1 (by omega); simp only [Int.natCast_one, hc.2.1] at this; have h1 : capM 2 ≥ n := h1; omega
      · have : capM 2 < n := hall 2 (by omega); have h1 : capM 3 ≥ n := h1; omega
    · have h0 := of_decide_eq_true h0
      have h1 := of_decide_eq_false h1
      rcases Nat.lt_or_ge c i with h | h
      · exact hall h0 c h
      · have : c = i := by omega
        subst this; omega
    · have h0 := of_decide_eq_false h0
      exact ⟨by unfold I64; omega, i + 1, ⟨by omega, .inl (by omega)⟩, by omega, by omega⟩
  · have : i = 4 := by have := of_decide_eq_false hb; omega
    subst this
    rcases hi.2 with h | h
    · omega
    · have : capM 3 < n := h 3 (by omega)
      omega
theorem cap_ok : CtrOk Try.prog 105 capC := det_end tt_ok mixed tblU_ok (fun _ => noAn) 200 5 (fun _ => rfl) (fun _ => rfl) fun x _ => Eq.mp (capVC_ok x) (capVC_true x)
theorem rcap_ok : CtrOk Try.prog 107 capC := det_end tt_ok mixed tblU_ok (fun _ => noAn) 200 5 (fun _ => rfl) (fun _ => rfl) fun x _ => Eq.mp (rcapVC_ok x) (rcapVC_true x)
theorem need_ok : CtrOk Try.prog 70 needC := det_end tt_ok mixed TblOk.nil (fun _ => noAn) 200 5 (fun _ => rfl) (fun _ => rfl) fun x _ => Eq.mp (needVC_ok x) (needVC_true x)
theorem rneed_ok : CtrOk Try.prog 76 needC := det_end tt_ok mixed (.cons (ctrT_ok rcap_ok) .nil) anRNeed 200 5 (fun _ => rfl) (fun _ => rfl) fun x _ => Eq.mp (rneedVC_ok x) (rneedVC_true x)
end Go.Proofs.Ytjndgegfonhhfaa
end
section
/- Stores, read: contracts. -/
namespace Go.Proofs.Ytjndgegfonhhfaa
open Go SE
noncomputable section
def Shf.os (s : Shf) : List AObj := [.ro (rowP s), .ro (rowQ s)]
structure SK where
  s : Shf
  key : BA
def SK.ok (x : SK) : Prop := x.s.small ∧ x.key.size ≤ 1500
def findC : Ctr := det SK (fun x => [x.s.av 0 1, str x.key]) 2 (fun x => x.s.os) (fun x => Hd x.ok) (fun x => i64 (findM x.s x.key)) 2 (fun x => x.s.os)
def seekC : Ctr := det SK (fun x => [x.s.av 0 1, str x.key]) 2 (fun x => x.s.os) (fun x => Hd x.ok) (fun x => i64 (seekM x.s x.key)) 2 (fun x => x.s.os)
def mayC : Ctr := det Shf (fun s => [s.av 0 1]) 2 Shf.os (fun s => Hd s.small) (fun s => boo (mayM s)) 2 Shf.os
def getM (s : Shf) (key : BA) : BA := bif hadM s key then s.pv (placeM s key) else ByteArray.mk #[]
def placeI (s : Shf) (key : BA) : Int := bif hadM s key then (placeM s key : Nat) else -1
def getC : Ctr := det SK (fun x => [x.s.av 0 1, str x.key]) 2 (fun x => x.s.os) (fun x => Hd x.ok) (fun x => .tup [str (getM x.s x.key), boo (hadM x.s x.key)]) 2 (fun x => x.s.os)
def placeC : Ctr := det SK (fun x => [x.s.av 0 1, str x.key]) 2 (fun x => x.s.os) (fun x => Hd x.ok) (fun x => i64 (placeI x.s x.key)) 2 (fun x => x.s.os)
def tblV : WTbl := [(67, ctrT bucketC), (74, ctrT bucketC), (71, ctrT levelC), (108, ctrT levelC)]
theorem tblV_ok : TblOk Try.prog tblV := .cons (ctrT_ok bucket_ok) (.cons (ctrT_ok rbucket_ok) (.cons (ctrT_ok level_ok) (.cons (ctrT_ok rlevel_ok) .nil)))
/-- Loops of one number. -/
def loopN (f b : Nat) (fr : Nat → List (Nat × AV)) (inv : Nat → Prop) (n : Nat) : FuncId → Anns := fun g => bif Nat.beq g f then (fun b' _ _ => bif Nat.beq b' b then [{ σ := Nat, fr := fr, ob := fun _ => [], inv := fun i => i ≤ n ∧ inv i, meas := fun i => n - i }] else []) else fun _ _ _ => []
def anFind (x : SK) : FuncId → Anns := loopN 35 0 (fun i => [(11, i64 i), (5, i64 (1 + (cntM (nearM x.s x.key) i : Nat)))]) (fun _ => True) x.s.n
def anRFind (x : SK) : FuncId → Anns := loopN 46 0 (fun i => [(6, i64 i), (5, i64 (1 + (cntM (nearM x.s x.key) i : Nat)))]) (fun _ => True) x.s.n
def anSeek (f : FuncId) (x : SK) : FuncId → Anns := fun g => bif Nat.beq g f then (fun b fr _ => bif Nat.beq b 0 then
  [{ σ := Nat, fr := fun k => [(7, i64 (4 - k)), (5, i64 (skS x.s x.key k).1), (6, i64 ((skS x.s x.key k).2 : Nat))], ob := fun _ => [], inv := fun k => k ≤ 4, meas := fun k => 4 - k }] else bif Nat.beq b 2 then
  [{ σ := Nat, fr := fun j => [(8, i64 ((intAt fr 6).toNat + j : Nat)), (5, i64 (skN (fun i => levelM (x.s.pk i)) (intAt fr 7) (intAt fr 6).toNat (intAt fr 5) j)), (6, i64 (skA (fun i => levelM (x.s.pk i)) (intAt fr 7) (intAt fr 6).toNat j : Nat))], ob := fun _ => [],
     inv := fun j => j ≤ skJ x.s x.key (intAt fr 6).toNat, meas := fun j => x.s.n - j }] else []) else fun _ _ _ => []
def anMay (s : Shf) : FuncId → Anns := loopN 16 0 (fun i => [(8, i64 i)]) (fun i => ∀ j, j < i → 1 ≤ j → lsB (s.pk (j - 1)) (s.pk j) = true) s.n
def anRMay (s : Shf) : FuncId → Anns := fun g => bif Nat.beq g 43 then (fun b _ _ => bif Nat.beq b 0 then [{ σ := Nat, fr := fun i => [(3, i64 i)], ob := fun _ => [], inv := fun i => 1 ≤ i ∧ (s.n = 0 ∨ i ≤ s.n) ∧ ∀ j, j < i → 1 ≤ j → lsB (s.pk (j - 1)) (s.pk j) = true, meas := fun i => s.n - i }] else []) else fun _ _ _ => []
def anPlace (x : SK) : FuncId → Anns := loopN 103 0 (fun i => [(8, i64 i)]) (fun i => ∀ j, j < i → eqB (x.s.pk j) x.key = false) x.s.n
def anRGet (x : SK) : FuncId → Anns := loopN 45 0 (fun i => [(6, i64 i)]) (fun i => ∀ j, j < i → eqB (x.s.pk j) x.key = false) x.s.n
end
end Go.Proofs.Ytjndgegfonhhfaa
end
section
/- What is asked of stores that are read. -/
namespace Go.Proofs.Ytjndgegfonhhfaa
open Go SE
def findVC_wp (x : SK) : Prop := wpF Try.prog tblV tt (anFind x) 200 5 35 (findC.args x) (hO findC.k (findC.os x)) (fun v h' => endsP findC.k x v h' findC.outs)
def findVC (x : SK) : Prop :=
  ((∃ (s : @Nat), (((s ≤ (@Shf.n (@SK.s x))) ∧
  True) ∧
  (True ∧
  (((((s : Nat) : @Int) = (0 : @Int)) ∧
  ((((1 : @Int) + (((@cntM (@nearM (@SK.s x) (@SK.key x)) s) : Nat) : @Int)) = (1 : @Int)) ∧
  True)) ∧
  (((((0 : @Nat) = (0 : @Nat)) ∧
  ((@Shf.n (@SK.s x)) = (@Shf.n (@SK.s x)))) ∧
  ((((0 : @Nat) = (0 : @Nat)) ∧
  ((@Shf.m (@SK.s x)) = (@Shf.m (@SK.s x)))) ∧
  True)) ∧
  ((((@rowQ (@SK.s x)) = (@rowQ (@SK.s x))) ∧
  (@Bool.true = @Bool.true)) ∧
  ((((@rowP (@SK.s x)) = (@rowP (@SK.s x))) ∧
  (@Bool.true = @Bool.true)) ∧
  True))))))) ∧
  ((∀ (s : @Nat), (((s ≤ (@Shf.n (@SK.s x))) ∧
  True) → (cP (decide (((s : Nat) : @Int) < (((@Shf.n (@SK.s x)) : Nat) : @Int))) ((((0 : @Int) ≤ ((s : Nat) : @Int)) ∧
  (((s : Nat) : @Int) < (((@Shf.n (@SK.s x)) : Nat) : @Int))) ∧
  ((((0 : @Nat) + s) < (@Shf.n (@SK.s x))) ∧
  (cP (@Op.bytesLess (@ByteArray.toList (@Shf.pk (@SK.s x) ((0 : @Nat) + s))) (@ByteArray.toList (@SK.key x))) (∃ (x_1 : @ByteArray), (((@ByteArray.size x_1) < (1099511627776 : @Nat)) ∧
  (((x_1 = (@Shf.pk (@SK.s x) ((0 : @Nat) + s))) ∧
  True) ∧
  (True ∧
  (∀ (y : Unit), (True → (∃ (x_2 : @ByteArray), (((@ByteArray.size x_2) < (1099511627776 : @Nat)) ∧
  (((x_2 = (@SK.key x)) ∧
  True) ∧
  (True ∧
  (∀ (y_1 : Unit), (True → (cP (@BEq.beq @Int (@instBEqOfDecidableEq @Int @Int.instDecidableEq) (@bucketM x_1) (@bucketM x_2)) ((@I64 (((1 : @Int) + (((@cntM (@nearM (@SK.s x) (@SK.key x)) s) : Nat) : @Int)) + (1 : @Int))) ∧
  ((@I64 (((s : Nat) : @Int) + (1 : @Int))) ∧
  (∃ (s_1 : @Nat), (((s_1 ≤ (@Shf.n (@SK.s x))) ∧
  True) ∧
  ((((@Shf.n (@SK.s x)) - s_1) < ((@Shf.n (@SK.s x)) - s)) ∧
  (((((s_1 : Nat) : @Int) = (((s : Nat) : @Int) + (1 : @Int))) ∧
  ((((1 : @Int) + (((@cntM (@nearM (@SK.s x) (@SK.key x)) s_1) : Nat) : @Int)) = (((1 : @Int) + (((@cntM (@nearM (@SK.s x) (@SK.key x)) s) : Nat) : @Int)) + (1 : @Int))) ∧
  True)) ∧
  (((((0 : @Nat) = (0 : @Nat)) ∧
  ((@Shf.n (@SK.s x)) = (@Shf.n (@SK.s x)))) ∧
  ((((0 : @Nat) = (0 : @Nat)) ∧
  ((@Shf.m (@SK.s x)) = (@Shf.m (@SK.s x)))) ∧
  True)) ∧
  ((((@rowQ (@SK.s x)) = (@rowQ (@SK.s x))) ∧
  (@Bool.true = @Bool.true)) ∧
  ((((@rowP (@SK.s x)) = (@rowP (@SK.s x))) ∧
  (@Bool.true = @Bool.true)) ∧
  True))))))))) ((@I64 (((s : Nat) : @Int) + (1 : @Int))) ∧
  (∃ (s_1 : @Nat), (((s_1 ≤ (@Shf.n (@SK.s x))) ∧
  True) ∧
  ((((@Shf.n (@SK.s x)) - s_1) < ((@Shf.n (@SK.s x)) - s)) ∧
  (((((s_1 : Nat) : @Int) = (((s : Nat) : @Int) + (1 : @Int))) ∧
  ((((1 : @Int) + (((@cntM (@nearM (@SK.s x) (@SK.key x)) s_1) : Nat) : @Int)) = ((1 : @Int) + (((@cntM (@nearM (@SK.s x) (@SK.key x)) s) : Nat) : @Int))) ∧
  True)) ∧
  (((((0 : @Nat) = (0 : @Nat)) ∧
  ((@Shf.n (@SK.s x)) = (@Shf.n (@SK.s x)))) ∧
  ((((0 : @Nat) = (0 : @Nat)) ∧
  ((@Shf.m (@SK.s x)) = (@Shf.m (@SK.s x)))) ∧
  True)) ∧
  ((((@rowQ (@SK.s x)) = (@rowQ (@SK.s x))) ∧
  (@Bool.true = @Bool.true)) ∧
  ((((@rowP (@SK.s x)) = (@rowP (@SK.s x))) ∧
  (@Bool.true = @Bool.true)) ∧
  True))))))))))))))))))))) ((@I64 (((s : Nat) : @Int) + (1 : @Int))) ∧
  (∃ (s_1 : @Nat), (((s_1 ≤ (@Shf.n (@SK.s x))) ∧
  True) ∧
  ((((@Shf.n (@SK.s x)) - s_1) < ((@Shf.n (@SK.s x)) - s)) ∧
  (((((s_1 : Nat) : @Int) = (((s : Nat) : @Int) + (1 : @Int))) ∧
  ((((1 : @Int) + (((@cntM (@nearM (@SK.s x) (@SK.key x)) s_1) : Nat) : @Int)) = ((1 : @Int) + (((@cntM (@nearM (@SK.s x) (@SK.key x)) s) : Nat) : @Int))) ∧
  True)) ∧
  (((((0 : @Nat) = (0 : @Nat)) ∧
  ((@Shf.n (@SK.s x)) = (@Shf.n (@SK.s x)))) ∧
  ((((0 : @Nat) = (0 : @Nat)) ∧
  ((@Shf.m (@SK.s x)) = (@Shf.m (@SK.s x)))) ∧
  True)) ∧
  ((((@rowQ (@SK.s x)) = (@rowQ (@SK.s x))) ∧
  (@Bool.true = @Bool.true)) ∧
  ((((@rowP (@SK.s x)) = (@rowP (@SK.s x))) ∧
  (@Bool.true = @Bool.true)) ∧
  True))))))))))) (∃ (y : Unit), (True ∧
  (((@findM (@SK.s x) (@SK.key x)) = ((1 : @Int) + (((@cntM (@nearM (@SK.s x) (@SK.key x)) s) : Nat) : @Int))) ∧
  ((((@rowP (@SK.s x)) = (@rowP (@SK.s x))) ∧
  (@Bool.true = @Bool.true)) ∧
  ((((@rowQ (@SK.s x)) = (@rowQ (@SK.s x))) ∧
  (@Bool.true = @Bool.true)) ∧
  True)))))))) ∧
  True))
theorem findVC_ok (x : SK) : findVC x = findVC_wp x := by kernel_rfl
def rfindVC_wp (x : SK) : Prop := wpF Try.prog tblV tt (anRFind x) 200 5 46 (findC.args x) (hO findC.k (findC.os x)) (fun v h' => endsP findC.k x v h' findC.outs)
def rfindVC (x : SK) : Prop :=
  ((∃ (s : @Nat), (((s ≤ (@Shf.n (@SK.s x))) ∧
  True) ∧
  (True ∧
  (((((s : Nat) : @Int) = (0 : @Int)) ∧
  ((((1 : @Int) + (((@cntM (@nearM (@SK.s x) (@SK.key x)) s) : Nat) : @Int)) = (1 : @Int)) ∧
  True)) ∧
  (((((0 : @Nat) = (0 : @Nat)) ∧
  ((@Shf.n (@SK.s x)) = (@Shf.n (@SK.s x)))) ∧
  ((((0 : @Nat) = (0 : @Nat)) ∧
  ((@Shf.m (@SK.s x)) = (@Shf.m (@SK.s x)))) ∧
  True)) ∧
  ((((@rowQ (@SK.s x)) = (@rowQ (@SK.s x))) ∧
  (@Bool.true = @Bool.true)) ∧
  ((((@rowP (@SK.s x)) = (@rowP (@SK.s x))) ∧
  (@Bool.true = @Bool.true)) ∧
  True))))))) ∧
  ((∀ (s : @Nat), (((s ≤ (@Shf.n (@SK.s x))) ∧
  True) → (cP (decide (((s : Nat) : @Int) < (((@Shf.n (@SK.s x)) : Nat) : @Int))) ((((0 : @Int) ≤ ((s : Nat) : @Int)) ∧
  (((s : Nat) : @Int) < (((@Shf.n (@SK.s x)) : Nat) : @Int))) ∧
  ((((0 : @Nat) + s) < (@Shf.n (@SK.s x))) ∧
  (cP (@Op.bytesLess (@ByteArray.toList (@Shf.pk (@SK.s x) ((0 : @Nat) + s))) (@ByteArray.toList (@SK.key x))) (∃ (x_1 : @ByteArray), (((@ByteArray.size x_1) < (1099511627776 : @Nat)) ∧
  (((x_1 = (@Shf.pk (@SK.s x) ((0 : @Nat) + s))) ∧
  True) ∧
  (True ∧
  (∀ (y : Unit), (True → (∃ (x_2 : @ByteArray), (((@ByteArray.size x_2) < (1099511627776 : @Nat)) ∧
  (((x_2 = (@SK.key x)) ∧
  True) ∧
  (True ∧
  (∀ (y_1 : Unit), (True → (cP (@BEq.beq @Int (@instBEqOfDecidableEq @Int @Int.instDecidableEq) (@bucketM x_1) (@bucketM x_2)) ((@I64 (((1 : @Int) + (((@cntM (@nearM (@SK.s x) (@SK.key x)) s) : Nat) : @Int)) + (1 : @Int))) ∧
  ((@I64 (((s : Nat) : @Int) + (1 : @Int))) ∧
  (∃ (s_1 : @Nat), (((s_1 ≤ (@Shf.n (@SK.s x))) ∧
  True) ∧
  ((((@Shf.n (@SK.s x)) - s_1) < ((@Shf.n (@SK.s x)) - s)) ∧
  (((((s_1 : Nat) : @Int) = (((s : Nat) : @Int) + (1 : @Int))) ∧
  ((((1 : @Int) + (((@cntM (@nearM (@SK.s x) (@SK.key x)) s_1) : Nat) : @Int)) = (((1 : @Int) + (((@cntM (@nearM (@SK.s x) (@SK.key x)) s) : Nat) : @Int)) + (1 : @Int))) ∧
  True)) ∧
  (((((0 : @Nat) = (0 : @Nat)) ∧
  ((@Shf.n (@SK.s x)) = (@Shf.n (@SK.s x)))) ∧
  ((((0 : @Nat) = (0 : @Nat)) ∧
  ((@Shf.m (@SK.s x)) = (@Shf.m (@SK.s x)))) ∧
  True)) ∧
  ((((@rowQ (@SK.s x)) = (@rowQ (@SK.s x))) ∧
  (@Bool.true = @Bool.true)) ∧
  ((((@rowP (@SK.s x)) = (@rowP (@SK.s x))) ∧
  (@Bool.true = @Bool.true)) ∧
  True))))))))) ((@I64 (((s : Nat) : @Int) + (1 : @Int))) ∧
  (∃ (s_1 : @Nat), (((s_1 ≤ (@Shf.n (@SK.s x))) ∧
  True) ∧
  ((((@Shf.n (@SK.s x)) - s_1) < ((@Shf.n (@SK.s x)) - s)) ∧
  (((((s_1 : Nat) : @Int) = (((s : Nat) : @Int) + (1 : @Int))) ∧
  ((((1 : @Int) + (((@cntM (@nearM (@SK.s x) (@SK.key x)) s_1) : Nat) : @Int)) = ((1 : @Int) + (((@cntM (@nearM (@SK.s x) (@SK.key x)) s) : Nat) : @Int))) ∧
  True)) ∧
  (((((0 : @Nat) = (0 : @Nat)) ∧
  ((@Shf.n (@SK.s x)) = (@Shf.n (@SK.s x)))) ∧
  ((((0 : @Nat) = (0 : @Nat)) ∧
  ((@Shf.m (@SK.s x)) = (@Shf.m (@SK.s x)))) ∧
  True)) ∧
  ((((@rowQ (@SK.s x)) = (@rowQ (@SK.s x))) ∧
  (@Bool.true = @Bool.true)) ∧
  ((((@rowP (@SK.s x)) = (@rowP (@SK.s x))) ∧
  (@Bool.true = @Bool.true)) ∧
  True))))))))))))))))))))) ((@I64 (((s : Nat) : @Int) + (1 : @Int))) ∧
  (∃ (s_1 : @Nat), (((s_1 ≤ (@Shf.n (@SK.s x))) ∧
  True) ∧
  ((((@Shf.n (@SK.s x)) - s_1) < ((@Shf.n (@SK.s x)) - s)) ∧
  (((((s_1 : Nat) : @Int) = (((s : Nat) : @Int) + (1 : @Int))) ∧
  ((((1 : @Int) + (((@cntM (@nearM (@SK.s x) (@SK.key x)) s_1) : Nat) : @Int)) = ((1 : @Int) + (((@cntM (@nearM (@SK.s x) (@SK.key x)) s) : Nat) : @Int))) ∧
  True)) ∧
  (((((0 : @Nat) = (0 : @Nat)) ∧
  ((@Shf.n (@SK.s x)) = (@Shf.n (@SK.s x)))) ∧
  ((((0 : @Nat) = (0 : @Nat)) ∧
  ((@Shf.m (@SK.s x)) = (@Shf.m (@SK.s x)))) ∧
  True)) ∧
  ((((@rowQ (@SK.s x)) = (@rowQ (@SK.s x))) ∧
  (@Bool.true = @Bool.true)) ∧
  ((((@rowP (@SK.s x)) = (@rowP (@SK.s x))) ∧
  (@Bool.true = @Bool.true)) ∧
  True))))))))))) (∃ (y : Unit), (True ∧
  (((@findM (@SK.s x) (@SK.key x)) = ((1 : @Int) + (((@cntM (@nearM (@SK.s x) (@SK.key x)) s) : Nat) : @Int))) ∧
  ((((@rowP (@SK.s x)) = (@rowP (@SK.s x))) ∧
  (@Bool.true = @Bool.true)) ∧
  ((((@rowQ (@SK.s x)) = (@rowQ (@SK.s x))) ∧
  (@Bool.true = @Bool.true)) ∧
  True)))))))) ∧
  True))
theorem rfindVC_ok (x : SK) : rfindVC x = rfindVC_wp x := by kernel_rfl
def seekVC_wp (x : SK) : Prop := wpF Try.prog tblV tt (anSeek 41 x) 200 5 41 (seekC.args x) (hO seekC.k (seekC.os x)) (fun v h' => endsP seekC.k x v h' seekC.outs)
def seekVC (x : SK) : Prop :=
  ((∃ (s : @Nat), ((s ≤ (4 : @Nat)) ∧
  (True ∧
  (((((4 : @Int) - ((s : Nat) : @Int)) = (4 : @Int)) ∧
  (((@Prod.fst @Int @Nat (@skS (@SK.s x) (@SK.key x) s)) = (0 : @Int)) ∧
  (((((@Prod.snd @Int @Nat (@skS (@SK.s x) (@SK.key x) s)) : Nat) : @Int) = (0 : @Int)) ∧
  True))) ∧
  (((((0 : @Nat) = (0 : @Nat)) ∧
  ((@Shf.n (@SK.s x)) = (@Shf.n (@SK.s x)))) ∧
  ((((0 : @Nat) = (0 : @Nat)) ∧
  ((@Shf.m (@SK.s x)) = (@Shf.m (@SK.s x)))) ∧
  True)) ∧
  ((((@rowQ (@SK.s x)) = (@rowQ (@SK.s x))) ∧
  (@Bool.true = @Bool.true)) ∧
  ((((@rowP (@SK.s x)) = (@rowP (@SK.s x))) ∧
  (@Bool.true = @Bool.true)) ∧
  True))))))) ∧
  ((∀ (s : @Nat), ((s ≤ (4 : @Nat)) → (cP (decide (@GE.ge @Int @Int.instLEInt ((4 : @Int) - ((s : Nat) : @Int)) (1 : @Int))) ((@I64 ((@Prod.fst @Int @Nat (@skS (@SK.s x) (@SK.key x) s)) + (1 : @Int))) ∧
  ((∃ (s_1 : @Nat), ((s_1 ≤ (@skJ (@SK.s x) (@SK.key x) (Int.toNat (((@Prod.snd @Int @Nat (@skS (@SK.s x) (@SK.key x) s)) : Nat) : @Int)))) ∧
  (True ∧
  (((((((Int.toNat (((@Prod.snd @Int @Nat (@skS (@SK.s x) (@SK.key x) s)) : Nat) : @Int)) + s_1) : Nat) : @Int) = (((@Prod.snd @Int @Nat (@skS (@SK.s x) (@SK.key x) s)) : Nat) : @Int)) ∧
  (((@skN (fun (i : @Nat) => (@levelM (@Shf.pk (@SK.s x) i))) ((4 : @Int) - ((s : Nat) : @Int)) (Int.toNat (((@Prod.snd @Int @Nat (@skS (@SK.s x) (@SK.key x) s)) : Nat) : @Int)) ((@Prod.fst @Int @Nat (@skS (@SK.s x) (@SK.key x) s)) + (1 : @Int)) s_1) = ((@Prod.fst @Int @Nat (@skS (@SK.s x) (@SK.key x) s)) + (1 : @Int))) ∧
  (((((@skA (fun (i : @Nat) => (@levelM (@Shf.pk (@SK.s x) i))) ((4 : @Int) - ((s : Nat) : @Int)) (Int.toNat (((@Prod.snd @Int @Nat (@skS (@SK.s x) (@SK.key x) s)) : Nat) : @Int)) s_1) : Nat) : @Int) = (((@Prod.snd @Int @Nat (@skS (@SK.s x) (@SK.key x) s)) : Nat) : @Int)) ∧
  True))) ∧
  (((((0 : @Nat) = (0 : @Nat)) ∧
  ((@Shf.n (@SK.s x)) = (@Shf.n (@SK.s x)))) ∧
  ((((0 : @Nat) = (0 : @Nat)) ∧
  ((@Shf.m (@SK.s x)) = (@Shf.m (@SK.s x)))) ∧
  True)) ∧
  ((((@rowQ (@SK.s x)) = (@rowQ (@SK.s x))) ∧
  (@Bool.true = @Bool.true)) ∧
  ((((@rowP (@SK.s x)) = (@rowP (@SK.s x))) ∧
  (@Bool.true = @Bool.true)) ∧
  True))))))) ∧
  ((∀ (s_1 : @Nat), ((s_1 ≤ (@skJ (@SK.s x) (@SK.key x) (Int.toNat (((@Prod.snd @Int @Nat (@skS (@SK.s x) (@SK.key x) s)) : Nat) : @Int)))) → (cP (decide (((((@Prod.snd @Int @Nat (@skS (@SK.s x) (@SK.key x) s)) + s_1) : Nat) : @Int) < (((@Shf.n (@SK.s x)) : Nat) : @Int))) ((((0 : @Int) ≤ ((((@Prod.snd @Int @Nat (@skS (@SK.s x) (@SK.key x) s)) + s_1) : Nat) : @Int)) ∧
  (((((@Prod.snd @Int @Nat (@skS (@SK.s x) (@SK.key x) s)) + s_1) : Nat) : @Int) < (((@Shf.n (@SK.s x)) : Nat) : @Int))) ∧
  ((((0 : @Nat) + ((@Prod.snd @Int @Nat (@skS (@SK.s x) (@SK.key x) s)) + s_1)) < (@Shf.n (@SK.s x))) ∧
  (cP (@Op.bytesLess (@ByteArray.toList (@Shf.pk (@SK.s x) ((0 : @Nat) + ((@Prod.snd @Int @Nat (@skS (@SK.s x) (@SK.key x) s)) + s_1)))) (@ByteArray.toList (@SK.key x))) ((((0 : @Int) ≤ ((((@Prod.snd @Int @Nat (@skS (@SK.s x) (@SK.key x) s)) + s_1) : Nat) : @Int)) ∧
  (((((@Prod.snd @Int @Nat (@skS (@SK.s x) (@SK.key x) s)) + s_1) : Nat) : @Int) < (((@Shf.n (@SK.s x)) : Nat) : @Int))) ∧
  ((((0 : @Nat) + ((@Prod.snd @Int @Nat (@skS (@SK.s x) (@SK.key x) s)) + s_1)) < (@Shf.n (@SK.s x))) ∧
  (∃ (x_1 : @ByteArray), (((@ByteArray.size x_1) < (1099511627776 : @Nat)) ∧
  (((x_1 = (@Shf.pk (@SK.s x) ((0 : @Nat) + ((@Prod.snd @Int @Nat (@skS (@SK.s x) (@SK.key x) s)) + s_1)))) ∧
  True) ∧
  (True ∧
  (∀ (y : Unit), (True → (cP (decide (@GE.ge @Int @Int.instLEInt (@levelM x_1) ((4 : @Int) - ((s : Nat) : @Int)))) ((@I64 ((@skN (fun (i : @Nat) => (@levelM (@Shf.pk (@SK.s x) i))) ((4 : @Int) - ((s : Nat) : @Int)) (@Prod.snd @Int @Nat (@skS (@SK.s x) (@SK.key x) s)) ((@Prod.fst @Int @Nat (@skS (@SK.s x) (@SK.key x) s)) + (1 : @Int)) s_1) + (1 : @Int))) ∧
  ((@I64 (((((@Prod.snd @Int @Nat (@skS (@SK.s x) (@SK.key x) s)) + s_1) : Nat) : @Int) + (1 : @Int))) ∧
  ((@I64 (((((@Prod.snd @Int @Nat (@skS (@SK.s x) (@SK.key x) s)) + s_1) : Nat) : @Int) + (1 : @Int))) ∧
  (∃ (s_2 : @Nat), ((s_2 ≤ (@skJ (@SK.s x) (@SK.key x) (Int.toNat (((@Prod.snd @Int @Nat (@skS (@SK.s x) (@SK.key x) s)) : Nat) : @Int)))) ∧
  ((((@Shf.n (@SK.s x)) - s_2) < ((@Shf.n (@SK.s x)) - s_1)) ∧
  (((((((Int.toNat (((@Prod.snd @Int @Nat (@skS (@SK.s x) (@SK.key x) s)) : Nat) : @Int)) + s_2) : Nat) : @Int) = (((((@Prod.snd @Int @Nat (@skS (@SK.s x) (@SK.key x) s)) + s_1) : Nat) : @Int) + (1 : @Int))) ∧
  (((@skN (fun (i : @Nat) => (@levelM (@Shf.pk (@SK.s x) i))) ((4 : @Int) - ((s : Nat) : @Int)) (Int.toNat (((@Prod.snd @Int @Nat (@skS (@SK.s x) (@SK.key x) s)) : Nat) : @Int)) ((@Prod.fst @Int @Nat (@skS (@SK.s x) (@SK.key x) s)) + (1 : @Int)) s_2) = ((@skN (fun (i : @Nat) => (@levelM (@Shf.pk (@SK.s x) i))) ((4 : @Int) - ((s : Nat) : @Int)) (@Prod.snd @Int @Nat (@skS (@SK.s x) (@SK.key x) s)) ((@Prod.fst @Int @Nat (@skS (@SK.s x) (@SK.key x) s)) + (1 : @Int)) s_1) + (1 : @Int))) ∧
  (((((@skA (fun (i : @Nat) => (@levelM (@Shf.pk (@SK.s x) i))) ((4 : @Int) - ((s : Nat) : @Int)) (Int.toNat (((@Prod.snd @Int @Nat (@skS (@SK.s x) (@SK.key x) s)) : Nat) : @Int)) s_2) : Nat) : @Int) = (((((@Prod.snd @Int @Nat (@skS (@SK.s x) (@SK.key x) s)) + s_1) : Nat) : @Int) + (1 : @Int))) ∧
  True))) ∧
  (((((0 : @Nat) = (0 : @Nat)) ∧
  ((@Shf.n (@SK.s x)) = (@Shf.n (@SK.s x)))) ∧
  ((((0 : @Nat) = (0 : @Nat)) ∧
  ((@Shf.m (@SK.s x)) = (@Shf.m (@SK.s x)))) ∧
  True)) ∧
  ((((@rowQ (@SK.s x)) = (@rowQ (@SK.s x))) ∧
  (@Bool.true = @Bool.true)) ∧
  ((((@rowP (@SK.s x)) = (@rowP (@SK.s x))) ∧
  (@Bool.true = @Bool.true)) ∧
  True)))))))))) ((@I64 (((((@Prod.snd @Int @Nat (@skS (@SK.s x) (@SK.key x) s)) + s_1) : Nat) : @Int) + (1 : @Int))) ∧
  (∃ (s_2 : @Nat), ((s_2 ≤ (@skJ (@SK.s x) (@SK.key x) (Int.toNat (((@Prod.snd @Int @Nat (@skS (@SK.s x) (@SK.key x) s)) : Nat) : @Int)))) ∧
  ((((@Shf.n (@SK.s x)) - s_2) < ((@Shf.n (@SK.s x)) - s_1)) ∧
  (((((((Int.toNat (((@Prod.snd @Int @Nat (@skS (@SK.s x) (@SK.key x) s)) : Nat) : @Int)) + s_2) : Nat) : @Int) = (((((@Prod.snd @Int @Nat (@skS (@SK.s x) (@SK.key x) s)) + s_1) : Nat) : @Int) + (1 : @Int))) ∧
  (((@skN (fun (i : @Nat) => (@levelM (@Shf.pk (@SK.s x) i))) ((4 : @Int) - ((s : Nat) : @Int)) (Int.toNat (((@Prod.snd @Int @Nat (@skS (@SK.s x) (@SK.key x) s)) : Nat) : @Int)) ((@Prod.fst @Int @Nat (@skS (@SK.s x) (@SK.key x) s)) + (1 : @Int)) s_2) = (@skN (fun (i : @Nat) => (@levelM (@Shf.pk (@SK.s x) i))) ((4 : @Int) - ((s : Nat) : @Int)) (@Prod.snd @Int @Nat (@skS (@SK.s x) (@SK.key x) s)) ((@Prod.fst @Int @Nat (@skS (@SK.s x) (@SK.key x) s)) + (1 : @Int)) s_1)) ∧
  (((((@skA (fun (i : @Nat) => (@levelM (@Shf.pk (@SK.s x) i))) ((4 : @Int) - ((s : Nat) : @Int)) (Int.toNat (((@Prod.snd @Int @Nat (@skS (@SK.s x) (@SK.key x) s)) : Nat) : @Int)) s_2) : Nat) : @Int) = (((@skA (fun (i : @Nat) => (@levelM (@Shf.pk (@SK.s x) i))) ((4 : @Int) - ((s : Nat) : @Int)) (@Prod.snd @Int @Nat (@skS (@SK.s x) (@SK.key x) s)) s_1) : Nat) : @Int)) ∧
  True))) ∧
  (((((0 : @Nat) = (0 : @Nat)) ∧
  ((@Shf.n (@SK.s x)) = (@Shf.n (@SK.s x)))) ∧
  ((((0 : @Nat) = (0 : @Nat)) ∧
  ((@Shf.m (@SK.s x)) = (@Shf.m (@SK.s x)))) ∧
  True)) ∧
  ((((@rowQ (@SK.s x)) = (@rowQ (@SK.s x))) ∧
  (@Bool.true = @Bool.true)) ∧
  ((((@rowP (@SK.s x)) = (@rowP (@SK.s x))) ∧
  (@Bool.true = @Bool.true)) ∧
  True))))))))))))))))) ((@I64 (((4 : @Int) - ((s : Nat) : @Int)) - (1 : @Int))) ∧
  (∃ (s_2 : @Nat), ((s_2 ≤ (4 : @Nat)) ∧
  ((((4 : @Nat) - s_2) < ((4 : @Nat) - s)) ∧
  (((((4 : @Int) - ((s_2 : Nat) : @Int)) = (((4 : @Int) - ((s : Nat) : @Int)) - (1 : @Int))) ∧
  (((@Prod.fst @Int @Nat (@skS (@SK.s x) (@SK.key x) s_2)) = (@skN (fun (i : @Nat) => (@levelM (@Shf.pk (@SK.s x) i))) ((4 : @Int) - ((s : Nat) : @Int)) (@Prod.snd @Int @Nat (@skS (@SK.s x) (@SK.key x) s)) ((@Prod.fst @Int @Nat (@skS (@SK.s x) (@SK.key x) s)) + (1 : @Int)) s_1)) ∧
  (((((@Prod.snd @Int @Nat (@skS (@SK.s x) (@SK.key x) s_2)) : Nat) : @Int) = (((@skA (fun (i : @Nat) => (@levelM (@Shf.pk (@SK.s x) i))) ((4 : @Int) - ((s : Nat) : @Int)) (@Prod.snd @Int @Nat (@skS (@SK.s x) (@SK.key x) s)) s_1) : Nat) : @Int)) ∧
  True))) ∧
  (((((0 : @Nat) = (0 : @Nat)) ∧
  ((@Shf.n (@SK.s x)) = (@Shf.n (@SK.s x)))) ∧
  ((((0 : @Nat) = (0 : @Nat)) ∧
  ((@Shf.m (@SK.s x)) = (@Shf.m (@SK.s x)))) ∧
  True)) ∧
  ((((@rowQ (@SK.s x)) = (@rowQ (@SK.s x))) ∧
  (@Bool.true = @Bool.true)) ∧
  ((((@rowP (@SK.s x)) = (@rowP (@SK.s x))) ∧
  (@Bool.true = @Bool.true)) ∧
  True))))))))))) ((@I64 (((4 : @Int) - ((s : Nat) : @Int)) - (1 : @Int))) ∧
  (∃ (s_2 : @Nat), ((s_2 ≤ (4 : @Nat)) ∧
  ((((4 : @Nat) - s_2) < ((4 : @Nat) - s)) ∧
  (((((4 : @Int) - ((s_2 : Nat) : @Int)) = (((4 : @Int) - ((s : Nat) : @Int)) - (1 : @Int))) ∧
  (((@Prod.fst @Int @Nat (@skS (@SK.s x) (@SK.key x) s_2)) = (@skN (fun (i : @Nat) => (@levelM (@Shf.pk (@SK.s x) i))) ((4 : @Int) - ((s : Nat) : @Int)) (@Prod.snd @Int @Nat (@skS (@SK.s x) (@SK.key x) s)) ((@Prod.fst @Int @Nat (@skS (@SK.s x) (@SK.key x) s)) + (1 : @Int)) s_1)) ∧
  (((((@Prod.snd @Int @Nat (@skS (@SK.s x) (@SK.key x) s_2)) : Nat) : @Int) = (((@skA (fun (i : @Nat) => (@levelM (@Shf.pk (@SK.s x) i))) ((4 : @Int) - ((s : Nat) : @Int)) (@Prod.snd @Int @Nat (@skS (@SK.s x) (@SK.key x) s)) s_1) : Nat) : @Int)) ∧
  True))) ∧
  (((((0 : @Nat) = (0 : @Nat)) ∧
  ((@Shf.n (@SK.s x)) = (@Shf.n (@SK.s x)))) ∧
  ((((0 : @Nat) = (0 : @Nat)) ∧
  ((@Shf.m (@SK.s x)) = (@Shf.m (@SK.s x)))) ∧
  True)) ∧
  ((((@rowQ (@SK.s x)) = (@rowQ (@SK.s x))) ∧
  (@Bool.true = @Bool.true)) ∧
  ((((@rowP (@SK.s x)) = (@rowP (@SK.s x))) ∧
  (@Bool.true = @Bool.true)) ∧
  True))))))))))) ∧
  True))) (∃ (y : Unit), (True ∧
  (((@seekM (@SK.s x) (@SK.key x)) = (@Prod.fst @Int @Nat (@skS (@SK.s x) (@SK.key x) s))) ∧
  ((((@rowP (@SK.s x)) = (@rowP (@SK.s x))) ∧
  (@Bool.true = @Bool.true)) ∧
  ((((@rowQ (@SK.s x)) = (@rowQ (@SK.s x))) ∧
  (@Bool.true = @Bool.true)) ∧
  True)))))))) ∧
  True))
theorem seekVC_ok (x : SK) : seekVC x = seekVC_wp x := by kernel_rfl
def rseekVC_wp (x : SK) : Prop := wpF Try.prog tblV tt (anSeek 78 x) 200 5 78 (seekC.args x) (hO seekC.k (seekC.os x)) (fun v h' => endsP seekC.k x v h' seekC.outs)
def rseekVC (x : SK) : Prop :=
  ((∃ (s : @Nat), ((s ≤ (4 : @Nat)) ∧
  (True ∧
  (((((4 : @Int) - ((s : Nat) : @Int)) = (4 : @Int)) ∧
  (((@Prod.fst @Int @Nat (@skS (@SK.s x) (@SK.key x) s)) = (0 : @Int)) ∧
  (((((@Prod.snd @Int @Nat (@skS (@SK.s x) (@SK.key x) s)) : Nat) : @Int) = (0 : @Int)) ∧
  True))) ∧
  (((((0 : @Nat) = (0 : @Nat)) ∧
  ((@Shf.n (@SK.s x)) = (@Shf.n (@SK.s x)))) ∧
  ((((0 : @Nat) = (0 : @Nat)) ∧
  ((@Shf.m (@SK.s x)) = (@Shf.m (@SK.s x)))) ∧
  True)) ∧
  ((((@rowQ (@SK.s x)) = (@rowQ (@SK.s x))) ∧
  (@Bool.true = @Bool.true)) ∧
  ((((@rowP (@SK.s x)) = (@rowP (@SK.s x))) ∧
  (@Bool.true = @Bool.true)) ∧
  True))))))) ∧
  ((∀ (s : @Nat), ((s ≤ (4 : @Nat)) → (cP (decide (@GE.ge @Int @Int.instLEInt ((4 : @Int) - ((s : Nat) : @Int)) (1 : @Int))) ((@I64 ((@Prod.fst @Int @Nat (@skS (@SK.s x) (@SK.key x) s)) + (1 : @Int))) ∧
  ((∃ (s_1 : @Nat), ((s_1 ≤ (@skJ (@SK.s x) (@SK.key x) (Int.toNat (((@Prod.snd @Int @Nat (@skS (@SK.s x) (@SK.key x) s)) : Nat) : @Int)))) ∧
  (True ∧
  (((((((Int.toNat (((@Prod.snd @Int @Nat (@skS (@SK.s x) (@SK.key x) s)) : Nat) : @Int)) + s_1) : Nat) : @Int) = (((@Prod.snd @Int @Nat (@skS (@SK.s x) (@SK.key x) s)) : Nat) : @Int)) ∧
  (((@skN (fun (i : @Nat) => (@levelM (@Shf.pk (@SK.s x) i))) ((4 : @Int) - ((s : Nat) : @Int)) (Int.toNat (((@Prod.snd @Int @Nat (@skS (@SK.s x) (@SK.key x) s)) : Nat) : @Int)) ((@Prod.fst @Int @Nat (@skS (@SK.s x) (@SK.key x) s)) + (1 : @Int)) s_1) = ((@Prod.fst @Int @Nat (@skS (@SK.s x) (@SK.key x) s)) + (1 : @Int))) ∧
  (((((@skA (fun (i : @Nat) => (@levelM (@Shf.pk (@SK.s x) i))) ((4 : @Int) - ((s : Nat) : @Int)) (Int.toNat (((@Prod.snd @Int @Nat (@skS (@SK.s x) (@SK.key x) s)) : Nat) : @Int)) s_1) : Nat) : @Int) = (((@Prod.snd @Int @Nat (@skS (@SK.s x) (@SK.key x) s)) : Nat) : @Int)) ∧
  True))) ∧
  (((((0 : @Nat) = (0 : @Nat)) ∧
  ((@Shf.n (@SK.s x)) = (@Shf.n (@SK.s x)))) ∧
  ((((0 : @Nat) = (0 : @Nat)) ∧
  ((@Shf.m (@SK.s x)) = (@Shf.m (@SK.s x)))) ∧
  True)) ∧
  ((((@rowQ (@SK.s x)) = (@rowQ (@SK.s x))) ∧
  (@Bool.true = @Bool.true)) ∧
  ((((@rowP (@SK.s x)) = (@rowP (@SK.s x))) ∧
  (@Bool.true = @Bool.true)) ∧
  True))))))) ∧
  ((∀ (s_1 : @Nat), ((s_1 ≤ (@skJ (@SK.s x) (@SK.key x) (Int.toNat (((@Prod.snd @Int @Nat (@skS (@SK.s x) (@SK.key x) s)) : Nat) : @Int)))) → (cP (decide (((((@Prod.snd @Int @Nat (@skS (@SK.s x) (@SK.key x) s)) + s_1) : Nat) : @Int) < (((@Shf.n (@SK.s x)) : Nat) : @Int))) ((((0 : @Int) ≤ ((((@Prod.snd @Int @Nat (@skS (@SK.s x) (@SK.key x) s)) + s_1) : Nat) : @Int)) ∧
  (((((@Prod.snd @Int @Nat (@skS (@SK.s x) (@SK.key x) s)) + s_1) : Nat) : @Int) < (((@Shf.n (@SK.s x)) : Nat) : @Int))) ∧
  ((((0 : @Nat) + ((@Prod.snd @Int @Nat (@skS (@SK.s x) (@SK.key x) s)) + s_1)) < (@Shf.n (@SK.s x))) ∧
  (cP (@Op.bytesLess (@ByteArray.toList (@Shf.pk (@SK.s x) ((0 : @Nat) + ((@Prod.snd @Int @Nat (@skS (@SK.s x) (@SK.key x) s)) + s_1)))) (@ByteArray.toList (@SK.key x))) ((((0 : @Int) ≤ ((((@Prod.snd @Int @Nat (@skS (@SK.s x) (@SK.key x) s)) + s_1) : Nat) : @Int)) ∧
  (((((@Prod.snd @Int @Nat (@skS (@SK.s x) (@SK.key x) s)) + s_1) : Nat) : @Int) < (((@Shf.n (@SK.s x)) : Nat) : @Int))) ∧
  ((((0 : @Nat) + ((@Prod.snd @Int @Nat (@skS (@SK.s x) (@SK.key x) s)) + s_1)) < (@Shf.n (@SK.s x))) ∧
  (∃ (x_1 : @ByteArray), (((@ByteArray.size x_1) < (1099511627776 : @Nat)) ∧
  (((x_1 = (@Shf.pk (@SK.s x) ((0 : @Nat) + ((@Prod.snd @Int @Nat (@skS (@SK.s x) (@SK.key x) s)) + s_1)))) ∧
  True) ∧
  (True ∧
  (∀ (y : Unit), (True → (cP (decide (@GE.ge @Int @Int.instLEInt (@levelM x_1) ((4 : @Int) - ((s : Nat) : @Int)))) ((@I64 ((@skN (fun (i : @Nat) => (@levelM (@Shf.pk (@SK.s x) i))) ((4 : @Int) - ((s : Nat) : @Int)) (@Prod.snd @Int @Nat (@skS (@SK.s x) (@SK.key x) s)) ((@Prod.fst @Int @Nat (@skS (@SK.s x) (@SK.key x) s)) + (1 : @Int)) s_1) + (1 : @Int))) ∧
  ((@I64 (((((@Prod.snd @Int @Nat (@skS (@SK.s x) (@SK.key x) s)) + s_1) : Nat) : @Int) + (1 : @Int))) ∧
  ((@I64 (((((@Prod.snd @Int @Nat (@skS (@SK.s x) (@SK.key x) s)) + s_1) : Nat) : @Int) + (1 : @Int))) ∧
  (∃ (s_2 : @Nat), ((s_2 ≤ (@skJ (@SK.s x) (@SK.key x) (Int.toNat (((@Prod.snd @Int @Nat (@skS (@SK.s x) (@SK.key x) s)) : Nat) : @Int)))) ∧
  ((((@Shf.n (@SK.s x)) - s_2) < ((@Shf.n (@SK.s x)) - s_1)) ∧
  (((((((Int.toNat (((@Prod.snd @Int @Nat (@skS (@SK.s x) (@SK.key x) s)) : Nat) : @Int)) + s_2) : Nat) : @Int) = (((((@Prod.snd @Int @Nat (@skS (@SK.s x) (@SK.key x) s)) + s_1) : Nat) : @Int) + (1 : @Int))) ∧
  (((@skN (fun (i : @Nat) => (@levelM (@Shf.pk (@SK.s x) i))) ((4 : @Int) - ((s : Nat) : @Int)) (Int.toNat (((@Prod.snd @Int @Nat (@skS (@SK.s x) (@SK.key x) s)) : Nat) : @Int)) ((@Prod.fst @Int @Nat (@skS (@SK.s x) (@SK.key x) s)) + (1 : @Int)) s_2) = ((@skN (fun (i : @Nat) => (@levelM (@Shf.pk (@SK.s x) i))) ((4 : @Int) - ((s : Nat) : @Int)) (@Prod.snd @Int @Nat (@skS (@SK.s x) (@SK.key x) s)) ((@Prod.fst @Int @Nat (@skS (@SK.s x) (@SK.key x) s)) + (1 : @Int)) s_1) + (1 : @Int))) ∧
  (((((@skA (fun (i : @Nat) => (@levelM (@Shf.pk (@SK.s x) i))) ((4 : @Int) - ((s : Nat) : @Int)) (Int.toNat (((@Prod.snd @Int @Nat (@skS (@SK.s x) (@SK.key x) s)) : Nat) : @Int)) s_2) : Nat) : @Int) = (((((@Prod.snd @Int @Nat (@skS (@SK.s x) (@SK.key x) s)) + s_1) : Nat) : @Int) + (1 : @Int))) ∧
  True))) ∧
  (((((0 : @Nat) = (0 : @Nat)) ∧
  ((@Shf.n (@SK.s x)) = (@Shf.n (@SK.s x)))) ∧
  ((((0 : @Nat) = (0 : @Nat)) ∧
  ((@Shf.m (@SK.s x)) = (@Shf.m (@SK.s x)))) ∧
  True)) ∧
  ((((@rowQ (@SK.s x)) = (@rowQ (@SK.s x))) ∧
  (@Bool.true = @Bool.true)) ∧
  ((((@rowP (@SK.s x)) = (@rowP (@SK.s x))) ∧
  (@Bool.true = @Bool.true)) ∧
  True)))))))))) ((@I64 (((((@Prod.snd @Int @Nat (@skS (@SK.s x) (@SK.key x) s)) + s_1) : Nat) : @Int) + (1 : @Int))) ∧
  (∃ (s_2 : @Nat), ((s_2 ≤ (@skJ (@SK.s x) (@SK.key x) (Int.toNat (((@Prod.snd @Int @Nat (@skS (@SK.s x) (@SK.key x) s)) : Nat) : @Int)))) ∧
  ((((@Shf.n (@SK.s x)) - s_2) < ((@Shf.n (@SK.s x)) - s_1)) ∧
  (((((((Int.toNat (((@Prod.snd @Int @Nat (@skS (@SK.s x) (@SK.key x) s)) : Nat) : @Int)) + s_2) : Nat) : @Int) = (((((@Prod.snd @Int @Nat (@skS (@SK.s x) (@SK.key x) s)) + s_1) : Nat) : @Int) + (1 : @Int))) ∧
  (((@skN (fun (i : @Nat) => (@levelM (@Shf.pk (@SK.s x) i))) ((4 : @Int) - ((s : Nat) : @Int)) (Int.toNat (((@Prod.snd @Int @Nat (@skS (@SK.s x) (@SK.key x) s)) : Nat) : @Int)) ((@Prod.fst @Int @Nat (@skS (@SK.s x) (@SK.key x) s)) + (1 : @Int)) s_2) = (@skN (fun (i : @Nat) => (@levelM (@Shf.pk (@SK.s x) i))) ((4 : @Int) - ((s : Nat) : @Int)) (@Prod.snd @Int @Nat (@skS (@SK.s x) (@SK.key x) s)) ((@Prod.fst @Int @Nat (@skS (@SK.s x) (@SK.key x) s)) + (1 : @Int)) s_1)) ∧
  (((((@skA (fun (i : @Nat) => (@levelM (@Shf.pk (@SK.s x) i))) ((4 : @Int) - ((s : Nat) : @Int)) (Int.toNat (((@Prod.snd @Int @Nat (@skS (@SK.s x) (@SK.key x) s)) : Nat) : @Int)) s_2) : Nat) : @Int) = (((@skA (fun (i : @Nat) => (@levelM (@Shf.pk (@SK.s x) i))) ((4 : @Int) - ((s : Nat) : @Int)) (@Prod.snd @Int @Nat (@skS (@SK.s x) (@SK.key x) s)) s_1) : Nat) : @Int)) ∧
  True))) ∧
  (((((0 : @Nat) = (0 : @Nat)) ∧
  ((@Shf.n (@SK.s x)) = (@Shf.n (@SK.s x)))) ∧
  ((((0 : @Nat) = (0 : @Nat)) ∧
  ((@Shf.m (@SK.s x)) = (@Shf.m (@SK.s x)))) ∧
  True)) ∧
  ((((@rowQ (@SK.s x)) = (@rowQ (@SK.s x))) ∧
  (@Bool.true = @Bool.true)) ∧
  ((((@rowP (@SK.s x)) = (@rowP (@SK.s x))) ∧
  (@Bool.true = @Bool.true)) ∧
  True))))))))))))))))) ((@I64 (((4 : @Int) - ((s : Nat) : @Int)) - (1 : @Int))) ∧
  (∃ (s_2 : @Nat), ((s_2 ≤ (4 : @Nat)) ∧
  ((((4 : @Nat) - s_2) < ((4 : @Nat) - s)) ∧
  (((((4 : @Int) - ((s_2 : Nat) : @Int)) = (((4 : @Int) - ((s : Nat) : @Int)) - (1 : @Int))) ∧
  (((@Prod.fst @Int @Nat (@skS (@SK.s x) (@SK.key x) s_2)) = (@skN (fun (i : @Nat) => (@levelM (@Shf.pk (@SK.s x) i))) ((4 : @Int) - ((s : Nat) : @Int)) (@Prod.snd @Int @Nat (@skS (@SK.s x) (@SK.key x) s)) ((@Prod.fst @Int @Nat (@skS (@SK.s x) (@SK.key x) s)) + (1 : @Int)) s_1)) ∧
  (((((@Prod.snd @Int @Nat (@skS (@SK.s x) (@SK.key x) s_2)) : Nat) : @Int) = (((@skA (fun (i : @Nat) => (@levelM (@Shf.pk (@SK.s x) i))) ((4 : @Int) - ((s : Nat) : @Int)) (@Prod.snd @Int @Nat (@skS (@SK.s x) (@SK.key x) s)) s_1) : Nat) : @Int)) ∧
  True))) ∧
  (((((0 : @Nat) = (0 : @Nat)) ∧
  ((@Shf.n (@SK.s x)) = (@Shf.n (@SK.s x)))) ∧
  ((((0 : @Nat) = (0 : @Nat)) ∧
  ((@Shf.m (@SK.s x)) = (@Shf.m (@SK.s x)))) ∧
  True)) ∧
  ((((@rowQ (@SK.s x)) = (@rowQ (@SK.s x))) ∧
  (@Bool.true = @Bool.true)) ∧
  ((((@rowP (@SK.s x)) = (@rowP (@SK.s x))) ∧
  (@Bool.true = @Bool.true)) ∧
  True))))))))))) ((@I64 (((4 : @Int) - ((s : Nat) : @Int)) - (1 : @Int))) ∧
  (∃ (s_2 : @Nat), ((s_2 ≤ (4 : @Nat)) ∧
  ((((4 : @Nat) - s_2) < ((4 : @Nat) - s)) ∧
  (((((4 : @Int) - ((s_2 : Nat) : @Int)) = (((4 : @Int) - ((s : Nat) : @Int)) - (1 : @Int))) ∧
  (((@Prod.fst @Int @Nat (@skS (@SK.s x) (@SK.key x) s_2)) = (@skN (fun (i : @Nat) => (@levelM (@Shf.pk (@SK.s x) i))) ((4 : @Int) - ((s : Nat) : @Int)) (@Prod.snd @Int @Nat (@skS (@SK.s x) (@SK.key x) s)) ((@Prod.fst @Int @Nat (@skS (@SK.s x) (@SK.key x) s)) + (1 : @Int)) s_1)) ∧
  (((((@Prod.snd @Int @Nat (@skS (@SK.s x) (@SK.key x) s_2)) : Nat) : @Int) = (((@skA (fun (i : @Nat) => (@levelM (@Shf.pk (@SK.s x) i))) ((4 : @Int) - ((s : Nat) : @Int)) (@Prod.snd @Int @Nat (@skS (@SK.s x) (@SK.key x) s)) s_1) : Nat) : @Int)) ∧
  True))) ∧
  (((((0 : @Nat) = (0 : @Nat)) ∧
  ((@Shf.n (@SK.s x)) = (@Shf.n (@SK.s x)))) ∧
  ((((0 : @Nat) = (0 : @Nat)) ∧
  ((@Shf.m (@SK.s x)) = (@Shf.m (@SK.s x)))) ∧
  True)) ∧
  ((((@rowQ (@SK.s x)) = (@rowQ (@SK.s x))) ∧
  (@Bool.true = @Bool.true)) ∧
  ((((@rowP (@SK.s x)) = (@rowP (@SK.s x))) ∧
  (@Bool.true = @Bool.true)) ∧
  True))))))))))) ∧
  True))) (∃ (y : Unit), (True ∧
  (((@seekM (@SK.s x) (@SK.key x)) = (@Prod.fst @Int @Nat (@skS (@SK.s x) (@SK.key x) s))) ∧
  ((((@rowP (@SK.s x)) = (@rowP (@SK.s x))) ∧
  (@Bool.true = @Bool.true)) ∧
  ((((@rowQ (@SK.s x)) = (@rowQ (@SK.s x))) ∧
  (@Bool.true = @Bool.true)) ∧
  True)))))))) ∧
  True))
theorem rseekVC_ok (x : SK) : rseekVC x = rseekVC_wp x := by kernel_rfl
def mayVC_wp (x : Shf) : Prop := wpF Try.prog [] tt (anMay x) 200 5 16 (mayC.args x) (hO mayC.k (mayC.os x)) (fun v h' => endsP mayC.k x v h' mayC.outs)
def mayVC (x : Shf) : Prop :=
  ((∃ (s : @Nat), (((s ≤ (@Shf.n x)) ∧
  (∀ (j : @Nat), ((j < s) → (((1 : @Nat) ≤ j) → ((@lsB (@Shf.pk x (j - (1 : @Nat))) (@Shf.pk x j)) = @Bool.true))))) ∧
  (True ∧
  (((((s : Nat) : @Int) = (0 : @Int)) ∧
  True) ∧
  (((((0 : @Nat) = (0 : @Nat)) ∧
  ((@Shf.n x) = (@Shf.n x))) ∧
  ((((0 : @Nat) = (0 : @Nat)) ∧
  ((@Shf.m x) = (@Shf.m x))) ∧
  True)) ∧
  ((((@rowQ x) = (@rowQ x)) ∧
  (@Bool.true = @Bool.true)) ∧
  ((((@rowP x) = (@rowP x)) ∧
  (@Bool.true = @Bool.true)) ∧
  True))))))) ∧
  ((∀ (s : @Nat), (((s ≤ (@Shf.n x)) ∧
  (∀ (j : @Nat), ((j < s) → (((1 : @Nat) ≤ j) → ((@lsB (@Shf.pk x (j - (1 : @Nat))) (@Shf.pk x j)) = @Bool.true))))) → (cP (decide (((s : Nat) : @Int) < (((@Shf.n x) : Nat) : @Int))) ((((0 : @Int) ≤ ((s : Nat) : @Int)) ∧
  (((s : Nat) : @Int) < (((@Shf.n x) : Nat) : @Int))) ∧
  ((((0 : @Nat) + s) < (@Shf.n x)) ∧
  (cP (decide (@GT.gt @Int @Int.instLTInt ((s : Nat) : @Int) (0 : @Int))) ((@I64 (((s : Nat) : @Int) - (1 : @Int))) ∧
  ((((0 : @Int) ≤ (((s : Nat) : @Int) - (1 : @Int))) ∧
  ((((s : Nat) : @Int) - (1 : @Int)) < (((@Shf.n x) : Nat) : @Int))) ∧
  ((((0 : @Nat) + (Int.toNat (((s : Nat) : @Int) - (1 : @Int)))) < (@Shf.n x)) ∧
  (cP (@Bool.not (@Op.bytesLess (@ByteArray.toList (@Shf.pk x ((0 : @Nat) + (Int.toNat (((s : Nat) : @Int) - (1 : @Int)))))) (@ByteArray.toList (@Shf.pk x ((0 : @Nat) + s))))) (∃ (y : Unit), (True ∧
  (((@mayM x) = @Bool.false) ∧
  ((((@rowP x) = (@rowP x)) ∧
  (@Bool.true = @Bool.true)) ∧
  ((((@rowQ x) = (@rowQ x)) ∧
  (@Bool.true = @Bool.true)) ∧
  True))))) ((@I64 (((s : Nat) : @Int) + (1 : @Int))) ∧
  (∃ (s_1 : @Nat), (((s_1 ≤ (@Shf.n x)) ∧
  (∀ (j : @Nat), ((j < s_1) → (((1 : @Nat) ≤ j) → ((@lsB (@Shf.pk x (j - (1 : @Nat))) (@Shf.pk x j)) = @Bool.true))))) ∧
  ((((@Shf.n x) - s_1) < ((@Shf.n x) - s)) ∧
  (((((s_1 : Nat) : @Int) = (((s : Nat) : @Int) + (1 : @Int))) ∧
  True) ∧
  (((((0 : @Nat) = (0 : @Nat)) ∧
  ((@Shf.n x) = (@Shf.n x))) ∧
  ((((0 : @Nat) = (0 : @Nat)) ∧
  ((@Shf.m x) = (@Shf.m x))) ∧
  True)) ∧
  ((((@rowQ x) = (@rowQ x)) ∧
  (@Bool.true = @Bool.true)) ∧
  ((((@rowP x) = (@rowP x)) ∧
  (@Bool.true = @Bool.true)) ∧
  True)))))))))))) ((@I64 (((s : Nat) : @Int) + (1 : @Int))) ∧
  (∃ (s_1 : @Nat), (((s_1 ≤ (@Shf.n x)) ∧
  (∀ (j : @Nat), ((j < s_1) → (((1 : @Nat) ≤ j) → ((@lsB (@Shf.pk x (j - (1 : @Nat))) (@Shf.pk x j)) = @Bool.true))))) ∧
  ((((@Shf.n x) - s_1) < ((@Shf.n x) - s)) ∧
  (((((s_1 : Nat) : @Int) = (((s : Nat) : @Int) + (1 : @Int))) ∧
  True) ∧
  (((((0 : @Nat) = (0 : @Nat)) ∧
  ((@Shf.n x) = (@Shf.n x))) ∧
  ((((0 : @Nat) = (0 : @Nat)) ∧
  ((@Shf.m x) = (@Shf.m x))) ∧
  True)) ∧
  ((((@rowQ x) = (@rowQ x)) ∧
  (@Bool.true = @Bool.true)) ∧
  ((((@rowP x) = (@rowP x)) ∧
  (@Bool.true = @Bool.true)) ∧
  True))))))))))) (∃ (y : Unit), (True ∧
  (((@mayM x) = @Bool.true) ∧
  ((((@rowP x) = (@rowP x)) ∧
  (@Bool.true = @Bool.true)) ∧
  ((((@rowQ x) = (@rowQ x)) ∧
  (@Bool.true = @Bool.true)) ∧
  True)))))))) ∧
  True))
theorem mayVC_ok (x : Shf) : mayVC x = mayVC_wp x := by kernel_rfl
def rmayVC_wp (x : Shf) : Prop := wpF Try.prog [] tt (anRMay x) 200 5 43 (mayC.args x) (hO mayC.k (mayC.os x)) (fun v h' => endsP mayC.k x v h' mayC.outs)
def rmayVC (x : Shf) : Prop :=
  ((∃ (s : @Nat), ((((1 : @Nat) ≤ s) ∧
  ((((@Shf.n x) = (0 : @Nat)) ∨ (s ≤ (@Shf.n x))) ∧
  (∀ (j : @Nat), ((j < s) → (((1 : @Nat) ≤ j) → ((@lsB (@Shf.pk x (j - (1 : @Nat))) (@Shf.pk x j)) = @Bool.true)))))) ∧
  (True ∧
  (((((s : Nat) : @Int) = (1 : @Int)) ∧
  True) ∧
  (((((0 : @Nat) = (0 : @Nat)) ∧
  ((@Shf.n x) = (@Shf.n x))) ∧
  ((((0 : @Nat) = (0 : @Nat)) ∧
  ((@Shf.m x) = (@Shf.m x))) ∧
  True)) ∧
  ((((@rowQ x) = (@rowQ x)) ∧
  (@Bool.true = @Bool.true)) ∧
  ((((@rowP x) = (@rowP x)) ∧
  (@Bool.true = @Bool.true)) ∧
  True))))))) ∧
  ((∀ (s : @Nat), ((((1 : @Nat) ≤ s) ∧
  ((((@Shf.n x) = (0 : @Nat)) ∨ (s ≤ (@Shf.n x))) ∧
  (∀ (j : @Nat), ((j < s) → (((1 : @Nat) ≤ j) → ((@lsB (@Shf.pk x (j - (1 : @Nat))) (@Shf.pk x j)) = @Bool.true)))))) → (cP (decide (((s : Nat) : @Int) < (((@Shf.n x) : Nat) : @Int))) ((@I64 (((s : Nat) : @Int) - (1 : @Int))) ∧
  ((((0 : @Int) ≤ (((s : Nat) : @Int) - (1 : @Int))) ∧
  ((((s : Nat) : @Int) - (1 : @Int)) < (((@Shf.n x) : Nat) : @Int))) ∧
  ((((0 : @Nat) + (Int.toNat (((s : Nat) : @Int) - (1 : @Int)))) < (@Shf.n x)) ∧
  ((((0 : @Int) ≤ ((s : Nat) : @Int)) ∧
  (((s : Nat) : @Int) < (((@Shf.n x) : Nat) : @Int))) ∧
  ((((0 : @Nat) + s) < (@Shf.n x)) ∧
  (cP (@Bool.not (@Op.bytesLess (@ByteArray.toList (@Shf.pk x ((0 : @Nat) + (Int.toNat (((s : Nat) : @Int) - (1 : @Int)))))) (@ByteArray.toList (@Shf.pk x ((0 : @Nat) + s))))) (∃ (y : Unit), (True ∧
  (((@mayM x) = @Bool.false) ∧
  ((((@rowP x) = (@rowP x)) ∧
  (@Bool.true = @Bool.true)) ∧
  ((((@rowQ x) = (@rowQ x)) ∧
  (@Bool.true = @Bool.true)) ∧
  True))))) ((@I64 (((s : Nat) : @Int) + (1 : @Int))) ∧
  (∃ (s_1 : @Nat), ((((1 : @Nat) ≤ s_1) ∧
  ((((@Shf.n x) = (0 : @Nat)) ∨ (s_1 ≤ (@Shf.n x))) ∧
  (∀ (j : @Nat), ((j < s_1) → (((1 : @Nat) ≤ j) → ((@lsB (@Shf.pk x (j - (1 : @Nat))) (@Shf.pk x j)) = @Bool.true)))))) ∧
  ((((@Shf.n x) - s_1) < ((@Shf.n x) - s)) ∧
  (((((s_1 : Nat) : @Int) = (((s : Nat) : @Int) + (1 : @Int))) ∧
  True) ∧
  (((((0 : @Nat) = (0 : @Nat)) ∧
  ((@Shf.n x) = (@Shf.n x))) ∧
  ((((0 : @Nat) = (0 : @Nat)) ∧
  ((@Shf.m x) = (@Shf.m x))) ∧
  True)) ∧
  ((((@rowQ x) = (@rowQ x)) ∧
  (@Bool.true = @Bool.true)) ∧
  ((((@rowP x) = (@rowP x)) ∧
  (@Bool.true = @Bool.true)) ∧
  True)))))))))))))) (∃ (y : Unit), (True ∧
  (((@mayM x) = @Bool.true) ∧
  ((((@rowP x) = (@rowP x)) ∧
  (@Bool.true = @Bool.true)) ∧
  ((((@rowQ x) = (@rowQ x)) ∧
  (@Bool.true = @Bool.true)) ∧
  True)))))))) ∧
  True))
theorem rmayVC_ok (x : Shf) : rmayVC x = rmayVC_wp x := by kernel_rfl
def placeVC_wp (x : SK) : Prop := wpF Try.prog [] tt (anPlace x) 200 5 68 (placeC.args x) (hO placeC.k (placeC.os x)) (fun v h' => endsP placeC.k x v h' placeC.outs)
def placeVC (x : SK) : Prop :=
  ((∃ (s : @Nat), (((s ≤ (@Shf.n (@SK.s x))) ∧
  (∀ (j : @Nat), ((j < s) → ((@eqB (@Shf.pk (@SK.s x) j) (@SK.key x)) = @Bool.false)))) ∧
  (True ∧
  (((((s : Nat) : @Int) = (0 : @Int)) ∧
  True) ∧
  ((((@SK.key x) = (@SK.key x)) ∧
  True) ∧
  (((((0 : @Nat) = (0 : @Nat)) ∧
  ((@Shf.n (@SK.s x)) = (@Shf.n (@SK.s x)))) ∧
  ((((0 : @Nat) = (0 : @Nat)) ∧
  ((@Shf.m (@SK.s x)) = (@Shf.m (@SK.s x)))) ∧
  True)) ∧
  ((((@rowQ (@SK.s x)) = (@rowQ (@SK.s x))) ∧
  (@Bool.true = @Bool.true)) ∧
  ((((@rowP (@SK.s x)) = (@rowP (@SK.s x))) ∧
  (@Bool.true = @Bool.true)) ∧
  True)))))))) ∧
  ((∀ (s : @Nat), (((s ≤ (@Shf.n (@SK.s x))) ∧
  (∀ (j : @Nat), ((j < s) → ((@eqB (@Shf.pk (@SK.s x) j) (@SK.key x)) = @Bool.false)))) → (cP (decide (((s : Nat) : @Int) < (((@Shf.n (@SK.s x)) : Nat) : @Int))) ((((0 : @Int) ≤ ((s : Nat) : @Int)) ∧
  (((s : Nat) : @Int) < (((@Shf.n (@SK.s x)) : Nat) : @Int))) ∧
  ((((0 : @Nat) + s) < (@Shf.n (@SK.s x))) ∧
  (cP (@BEq.beq (@List @UInt8) (@List.instBEq @UInt8 (@instBEqOfDecidableEq @UInt8 @instDecidableEqUInt8)) (@ByteArray.toList (@Shf.pk (@SK.s x) ((0 : @Nat) + s))) (@ByteArray.toList (@SK.key x))) (∃ (y : Unit), (True ∧
  (((@placeI (@SK.s x) (@SK.key x)) = ((s : Nat) : @Int)) ∧
  ((((@rowP (@SK.s x)) = (@rowP (@SK.s x))) ∧
  (@Bool.true = @Bool.true)) ∧
  ((((@rowQ (@SK.s x)) = (@rowQ (@SK.s x))) ∧
  (@Bool.true = @Bool.true)) ∧
  True))))) ((@I64 (((s : Nat) : @Int) + (1 : @Int))) ∧
  (∃ (s_1 : @Nat), (((s_1 ≤ (@Shf.n (@SK.s x))) ∧
  (∀ (j : @Nat), ((j < s_1) → ((@eqB (@Shf.pk (@SK.s x) j) (@SK.key x)) = @Bool.false)))) ∧
  ((((@Shf.n (@SK.s x)) - s_1) < ((@Shf.n (@SK.s x)) - s)) ∧
  (((((s_1 : Nat) : @Int) = (((s : Nat) : @Int) + (1 : @Int))) ∧
  True) ∧
  ((((@SK.key x) = (@SK.key x)) ∧
  True) ∧
  (((((0 : @Nat) = (0 : @Nat)) ∧
  ((@Shf.n (@SK.s x)) = (@Shf.n (@SK.s x)))) ∧
  ((((0 : @Nat) = (0 : @Nat)) ∧
  ((@Shf.m (@SK.s x)) = (@Shf.m (@SK.s x)))) ∧
  True)) ∧
  ((((@rowQ (@SK.s x)) = (@rowQ (@SK.s x))) ∧
  (@Bool.true = @Bool.true)) ∧
  ((((@rowP (@SK.s x)) = (@rowP (@SK.s x))) ∧
  (@Bool.true = @Bool.true)) ∧
  True)))))))))))) (∃ (y : Unit), (True ∧
  (((@placeI (@SK.s x) (@SK.key x)) = (-(1 : @Int))) ∧
  ((((@rowP (@SK.s x)) = (@rowP (@SK.s x))) ∧
  (@Bool.true = @Bool.true)) ∧
  ((((@rowQ (@SK.s x)) = (@rowQ (@SK.s x))) ∧
  (@Bool.true = @Bool.true)) ∧
  True)))))))) ∧
  True))
theorem placeVC_ok (x : SK) : placeVC x = placeVC_wp x := by kernel_rfl
def getVC_wp (x : SK) : Prop := wpF Try.prog [(68, ctrT placeC)] tt noAn 200 5 36 (getC.args x) (hO getC.k (getC.os x)) (fun v h' => endsP getC.k x v h' getC.outs)
def getVC (x : SK) : Prop :=
  (∃ (x_1 : @SK), ((@Hd (@SK.ok x_1)) ∧
  ((((((0 : @Nat) = (0 : @Nat)) ∧
  ((@Shf.n (@SK.s x_1)) = (@Shf.n (@SK.s x)))) ∧
  ((((0 : @Nat) = (0 : @Nat)) ∧
  ((@Shf.m (@SK.s x_1)) = (@Shf.m (@SK.s x)))) ∧
  True)) ∧
  (((@SK.key x_1) = (@SK.key x)) ∧
  True)) ∧
  (((((@Shf.n (@SK.s x_1)) = (@Shf.n (@SK.s x))) ∧
  (∀ (q : @Nat), ((q < (@Shf.n (@SK.s x_1))) → ([(Value.string (@Shf.pk (@SK.s x_1) q)), (Value.string (@Shf.pv (@SK.s x_1) q))] = [(Value.string (@Shf.pk (@SK.s x) q)), (Value.string (@Shf.pv (@SK.s x) q))])))) ∧
  ((((@Shf.m (@SK.s x_1)) = (@Shf.m (@SK.s x))) ∧
  (∀ (q : @Nat), ((q < (@Shf.m (@SK.s x_1))) → ([(Value.string (@Shf.qv (@SK.s x_1) q))] = [(Value.string (@Shf.qv (@SK.s x) q))])))) ∧
  True)) ∧
  (∀ (y : Unit), (True → (cP (decide ((@placeI (@SK.s x_1) (@SK.key x_1)) < (0 : @Int))) (∃ (y_1 : Unit), (True ∧
  ((((@getM (@SK.s x) (@SK.key x)) = (@ByteArray.mk (@List.toArray @UInt8 (@List.nil @UInt8)))) ∧
  (((@hadM (@SK.s x) (@SK.key x)) = @Bool.false) ∧
  True)) ∧
  ((((@rowP (@SK.s x)) = (@rowP (@SK.s x))) ∧
  (@Bool.true = @Bool.true)) ∧
  ((((@rowQ (@SK.s x)) = (@rowQ (@SK.s x))) ∧
  (@Bool.true = @Bool.true)) ∧
  True))))) ((((0 : @Int) ≤ (@placeI (@SK.s x_1) (@SK.key x_1))) ∧
  ((@placeI (@SK.s x_1) (@SK.key x_1)) < (((@Shf.n (@SK.s x)) : Nat) : @Int))) ∧
  ((((0 : @Nat) + (Int.toNat (@placeI (@SK.s x_1) (@SK.key x_1)))) < (@Shf.n (@SK.s x))) ∧
  (∃ (y_1 : Unit), (True ∧
  ((((@getM (@SK.s x) (@SK.key x)) = (@Shf.pv (@SK.s x) ((0 : @Nat) + (Int.toNat (@placeI (@SK.s x_1) (@SK.key x_1)))))) ∧
  (((@hadM (@SK.s x) (@SK.key x)) = @Bool.true) ∧
  True)) ∧
  ((((@rowP (@SK.s x)) = (@rowP (@SK.s x))) ∧
  (@Bool.true = @Bool.true)) ∧
  ((((@rowQ (@SK.s x)) = (@rowQ (@SK.s x))) ∧
  (@Bool.true = @Bool.true)) ∧
  True))))))))))))))
theorem getVC_ok (x : SK) : getVC x = getVC_wp x := by kernel_rfl
def rgetVC_wp (x : SK) : Prop := wpF Try.prog [] tt (anRGet x) 200 5 45 (getC.args x) (hO getC.k (getC.os x)) (fun v h' => endsP getC.k x v h' getC.outs)
def rgetVC (x : SK) : Prop :=
  ((∃ (s : @Nat), (((s ≤ (@Shf.n (@SK.s x))) ∧
  (∀ (j : @Nat), ((j < s) → ((@eqB (@Shf.pk (@SK.s x) j) (@SK.key x)) = @Bool.false)))) ∧
  (True ∧
  (((((s : Nat) : @Int) = (0 : @Int)) ∧
  True) ∧
  (((((0 : @Nat) = (0 : @Nat)) ∧
  ((@Shf.n (@SK.s x)) = (@Shf.n (@SK.s x)))) ∧
  ((((0 : @Nat) = (0 : @Nat)) ∧
  ((@Shf.m (@SK.s x)) = (@Shf.m (@SK.s x)))) ∧
  True)) ∧
  ((((@rowQ (@SK.s x)) = (@rowQ (@SK.s x))) ∧
  (@Bool.true = @Bool.true)) ∧
  ((((@rowP (@SK.s x)) = (@rowP (@SK.s x))) ∧
  (@Bool.true = @Bool.true)) ∧
  True))))))) ∧
  ((∀ (s : @Nat), (((s ≤ (@Shf.n (@SK.s x))) ∧
  (∀ (j : @Nat), ((j < s) → ((@eqB (@Shf.pk (@SK.s x) j) (@SK.key x)) = @Bool.false)))) → (cP (decide (((s : Nat) : @Int) < (((@Shf.n (@SK.s x)) : Nat) : @Int))) ((((0 : @Int) ≤ ((s : Nat) : @Int)) ∧
  (((s : Nat) : @Int) < (((@Shf.n (@SK.s x)) : Nat) : @Int))) ∧
  ((((0 : @Nat) + s) < (@Shf.n (@SK.s x))) ∧
  (cP (@BEq.beq (@List @UInt8) (@List.instBEq @UInt8 (@instBEqOfDecidableEq @UInt8 @instDecidableEqUInt8)) (@ByteArray.toList (@Shf.pk (@SK.s x) ((0 : @Nat) + s))) (@ByteArray.toList (@SK.key x))) ((((0 : @Int) ≤ ((s : Nat) : @Int)) ∧
  (((s : Nat) : @Int) < (((@Shf.n (@SK.s x)) : Nat) : @Int))) ∧
  ((((0 : @Nat) + s) < (@Shf.n (@SK.s x))) ∧
  (∃ (y : Unit), (True ∧
  ((((@getM (@SK.s x) (@SK.key x)) = (@Shf.pv (@SK.s x) ((0 : @Nat) + s))) ∧
  (((@hadM (@SK.s x) (@SK.key x)) = @Bool.true) ∧
  True)) ∧
  ((((@rowP (@SK.s x)) = (@rowP (@SK.s x))) ∧
  (@Bool.true = @Bool.true)) ∧
  ((((@rowQ (@SK.s x)) = (@rowQ (@SK.s x))) ∧
  (@Bool.true = @Bool.true)) ∧
  True))))))) ((@I64 (((s : Nat) : @Int) + (1 : @Int))) ∧
  (∃ (s_1 : @Nat), (((s_1 ≤ (@Shf.n (@SK.s x))) ∧
  (∀ (j : @Nat), ((j < s_1) → ((@eqB (@Shf.pk (@SK.s x) j) (@SK.key x)) = @Bool.false)))) ∧
  ((((@Shf.n (@SK.s x)) - s_1) < ((@Shf.n (@SK.s x)) - s)) ∧
  (((((s_1 : Nat) : @Int) = (((s : Nat) : @Int) + (1 : @Int))) ∧
  True) ∧
  (((((0 : @Nat) = (0 : @Nat)) ∧
  ((@Shf.n (@SK.s x)) = (@Shf.n (@SK.s x)))) ∧
  ((((0 : @Nat) = (0 : @Nat)) ∧
  ((@Shf.m (@SK.s x)) = (@Shf.m (@SK.s x)))) ∧
  True)) ∧
  ((((@rowQ (@SK.s x)) = (@rowQ (@SK.s x))) ∧
  (@Bool.true = @Bool.true)) ∧
  ((((@rowP (@SK.s x)) = (@rowP (@SK.s x))) ∧
  (@Bool.true = @Bool.true)) ∧
  True))))))))))) (∃ (y : Unit), (True ∧
  ((((@getM (@SK.s x) (@SK.key x)) = (@ByteArray.mk (@List.toArray @UInt8 (@List.nil @UInt8)))) ∧
  (((@hadM (@SK.s x) (@SK.key x)) = @Bool.false) ∧
  True)) ∧
  ((((@rowP (@SK.s x)) = (@rowP (@SK.s x))) ∧
  (@Bool.true = @Bool.true)) ∧
  ((((@rowQ (@SK.s x)) = (@rowQ (@SK.s x))) ∧
  (@Bool.true = @Bool.true)) ∧
  True)))))))) ∧
  True))
theorem rgetVC_ok (x : SK) : rgetVC x = rgetVC_wp x := by kernel_rfl
end Go.Proofs.Ytjndgegfonhhfaa
end
