/- What is asked of a revival. -/
import Derived.Test.YtjndgegfonhhfaaDC
import Derived.KernelRfl
namespace Go.Proofs.Ytjndgegfonhhfaa
open Go SE
def reviveVC_wp (p : Int × Int) : Prop := wpF Try.prog tblS tt (fun _ _ _ _ => []) 200 5 25 (reviveC.args p) (hO reviveC.k (reviveC.os p)) (fun v h' => endsP reviveC.k p v h' reviveC.outs)
def reviveVC (p : Int × Int) : Prop :=
  (Go.Proofs.Ytjndgegfonhhfaa.SE.cP (decide ((@Prod.fst @Int @Int p) < (10 : @Int))) (∃ (y : Unit), (True ∧
  ((((@Go.Proofs.Ytjndgegfonhhfaa.rvS (@Prod.fst @Int @Int p) (@Prod.snd @Int @Int p)) = (0 : @Int)) ∧
  (((@Go.Proofs.Ytjndgegfonhhfaa.rvN (@Prod.fst @Int @Int p) (@Prod.snd @Int @Int p)) = (0 : @Int)) ∧
  (((@Go.Proofs.Ytjndgegfonhhfaa.rvN (@Prod.fst @Int @Int p) (@Prod.snd @Int @Int p)) = (0 : @Int)) ∧
  (((@Go.Proofs.Ytjndgegfonhhfaa.rvF (@Prod.fst @Int @Int p)) = (0 : @Int)) ∧
  (((0 : @Int) = (0 : @Int)) ∧
  (((0 : @Int) = (0 : @Int)) ∧
  True)))))) ∧
  True))) (Go.Proofs.Ytjndgegfonhhfaa.SE.cP (decide (@GT.gt @Int @Int.instLTInt (@Prod.fst @Int @Int p) (258 : @Int))) (∃ (y : Unit), (True ∧
  ((((@Go.Proofs.Ytjndgegfonhhfaa.rvS (@Prod.fst @Int @Int p) (@Prod.snd @Int @Int p)) = (0 : @Int)) ∧
  (((@Go.Proofs.Ytjndgegfonhhfaa.rvN (@Prod.fst @Int @Int p) (@Prod.snd @Int @Int p)) = (0 : @Int)) ∧
  (((@Go.Proofs.Ytjndgegfonhhfaa.rvN (@Prod.fst @Int @Int p) (@Prod.snd @Int @Int p)) = (0 : @Int)) ∧
  (((@Go.Proofs.Ytjndgegfonhhfaa.rvF (@Prod.fst @Int @Int p)) = (0 : @Int)) ∧
  (((0 : @Int) = (0 : @Int)) ∧
  (((0 : @Int) = (0 : @Int)) ∧
  True)))))) ∧
  True))) ((@Go.Proofs.Ytjndgegfonhhfaa.SE.I64 ((5 : @Int) + (@Go.Proofs.Ytjndgegfonhhfaa.SE.imin (@Go.Proofs.Ytjndgegfonhhfaa.SE.imax (@Prod.snd @Int @Int p) (0 : @Int)) (258 : @Int)))) ∧
  (∃ (x : @Int), (True ∧
  (((x = (@Prod.fst @Int @Int p)) ∧
  True) ∧
  (True ∧
  (∀ (y : Unit), (True → ((@Go.Proofs.Ytjndgegfonhhfaa.SE.I64 ((8 : @Int) * (@Go.Proofs.Ytjndgegfonhhfaa.slabsM x))) ∧
  ((@Go.Proofs.Ytjndgegfonhhfaa.SE.I64 (((5 : @Int) + (@Go.Proofs.Ytjndgegfonhhfaa.SE.imin (@Go.Proofs.Ytjndgegfonhhfaa.SE.imax (@Prod.snd @Int @Int p) (0 : @Int)) (258 : @Int))) + ((8 : @Int) * (@Go.Proofs.Ytjndgegfonhhfaa.slabsM x)))) ∧
  (∃ (y_1 : Unit), (True ∧
  ((((@Go.Proofs.Ytjndgegfonhhfaa.rvS (@Prod.fst @Int @Int p) (@Prod.snd @Int @Int p)) = (((5 : @Int) + (@Go.Proofs.Ytjndgegfonhhfaa.SE.imin (@Go.Proofs.Ytjndgegfonhhfaa.SE.imax (@Prod.snd @Int @Int p) (0 : @Int)) (258 : @Int))) + ((8 : @Int) * (@Go.Proofs.Ytjndgegfonhhfaa.slabsM x)))) ∧
  (((@Go.Proofs.Ytjndgegfonhhfaa.rvN (@Prod.fst @Int @Int p) (@Prod.snd @Int @Int p)) = (@Go.Proofs.Ytjndgegfonhhfaa.SE.imin (@Go.Proofs.Ytjndgegfonhhfaa.SE.imax (@Prod.snd @Int @Int p) (0 : @Int)) (258 : @Int))) ∧
  (((@Go.Proofs.Ytjndgegfonhhfaa.rvN (@Prod.fst @Int @Int p) (@Prod.snd @Int @Int p)) = (@Go.Proofs.Ytjndgegfonhhfaa.SE.imin (@Go.Proofs.Ytjndgegfonhhfaa.SE.imax (@Prod.snd @Int @Int p) (0 : @Int)) (258 : @Int))) ∧
  (((@Go.Proofs.Ytjndgegfonhhfaa.rvF (@Prod.fst @Int @Int p)) = (2 : @Int)) ∧
  (((0 : @Int) = (0 : @Int)) ∧
  (((0 : @Int) = (0 : @Int)) ∧
  True)))))) ∧
  True))))))))))))))
theorem reviveVC_ok (p : Int × Int) : reviveVC p = reviveVC_wp p := by kernel_rfl
def rreviveVC_wp (p : Int × Int) : Prop := wpF Try.prog tblS tt (fun _ _ _ _ => []) 200 5 26 (reviveC.args p) (hO reviveC.k (reviveC.os p)) (fun v h' => endsP reviveC.k p v h' reviveC.outs)
def rreviveVC (p : Int × Int) : Prop :=
  (Go.Proofs.Ytjndgegfonhhfaa.SE.cP (decide ((@Prod.fst @Int @Int p) < (10 : @Int))) (∃ (y : Unit), (True ∧
  ((((@Go.Proofs.Ytjndgegfonhhfaa.rvS (@Prod.fst @Int @Int p) (@Prod.snd @Int @Int p)) = (0 : @Int)) ∧
  (((@Go.Proofs.Ytjndgegfonhhfaa.rvN (@Prod.fst @Int @Int p) (@Prod.snd @Int @Int p)) = (0 : @Int)) ∧
  (((@Go.Proofs.Ytjndgegfonhhfaa.rvN (@Prod.fst @Int @Int p) (@Prod.snd @Int @Int p)) = (0 : @Int)) ∧
  (((@Go.Proofs.Ytjndgegfonhhfaa.rvF (@Prod.fst @Int @Int p)) = (0 : @Int)) ∧
  (((0 : @Int) = (0 : @Int)) ∧
  (((0 : @Int) = (0 : @Int)) ∧
  True)))))) ∧
  True))) (Go.Proofs.Ytjndgegfonhhfaa.SE.cP (decide (@GT.gt @Int @Int.instLTInt (@Prod.fst @Int @Int p) (258 : @Int))) (∃ (y : Unit), (True ∧
  ((((@Go.Proofs.Ytjndgegfonhhfaa.rvS (@Prod.fst @Int @Int p) (@Prod.snd @Int @Int p)) = (0 : @Int)) ∧
  (((@Go.Proofs.Ytjndgegfonhhfaa.rvN (@Prod.fst @Int @Int p) (@Prod.snd @Int @Int p)) = (0 : @Int)) ∧
  (((@Go.Proofs.Ytjndgegfonhhfaa.rvN (@Prod.fst @Int @Int p) (@Prod.snd @Int @Int p)) = (0 : @Int)) ∧
  (((@Go.Proofs.Ytjndgegfonhhfaa.rvF (@Prod.fst @Int @Int p)) = (0 : @Int)) ∧
  (((0 : @Int) = (0 : @Int)) ∧
  (((0 : @Int) = (0 : @Int)) ∧
  True)))))) ∧
  True))) ((@Go.Proofs.Ytjndgegfonhhfaa.SE.I64 ((5 : @Int) + (@Go.Proofs.Ytjndgegfonhhfaa.SE.imax (0 : @Int) (@Go.Proofs.Ytjndgegfonhhfaa.SE.imin (@Prod.snd @Int @Int p) (258 : @Int))))) ∧
  (∃ (x : @Int), (True ∧
  (((x = (@Prod.fst @Int @Int p)) ∧
  True) ∧
  (True ∧
  (∀ (y : Unit), (True → ((@Go.Proofs.Ytjndgegfonhhfaa.SE.I64 ((8 : @Int) * (@Go.Proofs.Ytjndgegfonhhfaa.slabsM x))) ∧
  ((@Go.Proofs.Ytjndgegfonhhfaa.SE.I64 (((5 : @Int) + (@Go.Proofs.Ytjndgegfonhhfaa.SE.imax (0 : @Int) (@Go.Proofs.Ytjndgegfonhhfaa.SE.imin (@Prod.snd @Int @Int p) (258 : @Int)))) + ((8 : @Int) * (@Go.Proofs.Ytjndgegfonhhfaa.slabsM x)))) ∧
  (∃ (y_1 : Unit), (True ∧
  ((((@Go.Proofs.Ytjndgegfonhhfaa.rvS (@Prod.fst @Int @Int p) (@Prod.snd @Int @Int p)) = (((5 : @Int) + (@Go.Proofs.Ytjndgegfonhhfaa.SE.imax (0 : @Int) (@Go.Proofs.Ytjndgegfonhhfaa.SE.imin (@Prod.snd @Int @Int p) (258 : @Int)))) + ((8 : @Int) * (@Go.Proofs.Ytjndgegfonhhfaa.slabsM x)))) ∧
  (((@Go.Proofs.Ytjndgegfonhhfaa.rvN (@Prod.fst @Int @Int p) (@Prod.snd @Int @Int p)) = (@Go.Proofs.Ytjndgegfonhhfaa.SE.imax (0 : @Int) (@Go.Proofs.Ytjndgegfonhhfaa.SE.imin (@Prod.snd @Int @Int p) (258 : @Int)))) ∧
  (((@Go.Proofs.Ytjndgegfonhhfaa.rvN (@Prod.fst @Int @Int p) (@Prod.snd @Int @Int p)) = (@Go.Proofs.Ytjndgegfonhhfaa.SE.imax (0 : @Int) (@Go.Proofs.Ytjndgegfonhhfaa.SE.imin (@Prod.snd @Int @Int p) (258 : @Int)))) ∧
  (((@Go.Proofs.Ytjndgegfonhhfaa.rvF (@Prod.fst @Int @Int p)) = (2 : @Int)) ∧
  (((0 : @Int) = (0 : @Int)) ∧
  (((0 : @Int) = (0 : @Int)) ∧
  True)))))) ∧
  True))))))))))))))
theorem rreviveVC_ok (p : Int × Int) : rreviveVC p = rreviveVC_wp p := by kernel_rfl
end Go.Proofs.Ytjndgegfonhhfaa
