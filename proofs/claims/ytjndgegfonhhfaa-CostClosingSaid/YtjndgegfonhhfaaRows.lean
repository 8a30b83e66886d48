/-
  NARROWER THAN 'FOR EVERY INPUT', by the rows' own cells (each row's printed sentence says how): CostCalls: loops · CostBlocks: loops.
  DERIVED. THE GIVEN ROWS OF THIS SEAT. 6 by the template 'for every input the law returns true; each argument reads behind the call as it read before'; 0 by the template 'total and deterministic' (their statements: YtjndgegfonhhfaaTotals.lean).
  GIVEN WITH THE SEED: the statements are not yours to turn. If you find one false, say at which input.
  Laid BY PROGRAM, IN A SANDBOX (cutbox-rows.mjs): the forced cells as the released guide's own fill.sh prints them over the translation 347dee2374a91a0e… (all of the seat's roots in one cut). By AI agents, Wed Nov 11 2026. No macro, syntax, notation, axiom, sorry.
-/
import Derived.Test.YtjndgegfonhhfaaChecked
import GoSem.Claim
import GoSem.ClaimJoined
import GoSem.ClaimMapViews
import Derived.JoinedTies
import Derived.KernelRfl
namespace Go.Proofs.Ytjndgegfonhhfaa
/- THE CELL 'sum', in the pinned program and in every row, IS THE sha256 OF THE DUMP (.gsa) THAT YtjndgegfonhhfaaProg.lean LOADS. Nothing in Lean hashes anything: it is a label: what it is worth is what the hold of that sum in a sandbox is worth. -/
noncomputable def Try.pinned : Pinned := { name := "ytjndgegfonhhfaa", sum := "347dee2374a91a0e5c3efc5a4d1479184476358c61839d583b7340b8679c739f", checked := Try.checked }
namespace Rows
def none {H : Type} : Left H := { results := [], args := [] }

/-- 'fuseelaw32.CostCalls': WHATEVER THE INPUT: true; the input reads as it did. -/
def costCallsSpec : ChangeSpec := { name := "costCalls", fn := fun _ => fun
  | [d1, d2] => { results := [.lit (.bool true)], args := [d1, d2] }
  | _ => none }
def costCallsRow : OpenClaim := { program := "ytjndgegfonhhfaa", sum := "347dee2374a91a0e5c3efc5a4d1479184476358c61839d583b7340b8679c739f", func := "fusee/fuseelaw32.CostCalls", spec := "costCalls", inPlace := ["slices.overlaps[fusee/api.Pair]", "internal/bytealg.abigen_runtime_cmpstring"], unfollowed := true, recurses := true, loops := true, apart := false }
def CostCallsSaid : Prop := costCallsRow.holds Try.pinned (OpenSpec.ofChange costCallsSpec)

/-- ITS FALSE NEIGHBOUR: 'it returns false'. Refute it at one input. -/
def costCallsWrong : ChangeSpec := { name := "costCalls", fn := fun _ => fun
  | [d1, d2] => { results := [.lit (.bool false)], args := [d1, d2] }
  | _ => none }
def CostCallsWrongFalsely : Prop := costCallsRow.holds Try.pinned (OpenSpec.ofChange costCallsWrong)

/-- 'fuseelaw32.CostAdds': WHATEVER THE INPUT: true; the input reads as it did. -/
def costAddsSpec : ChangeSpec := { name := "costAdds", fn := fun _ => fun
  | [d1, d2] => { results := [.lit (.bool true)], args := [d1, d2] }
  | _ => none }
def costAddsRow : OpenClaim := { program := "ytjndgegfonhhfaa", sum := "347dee2374a91a0e5c3efc5a4d1479184476358c61839d583b7340b8679c739f", func := "fusee/fuseelaw32.CostAdds", spec := "costAdds", inPlace := ["slices.overlaps[fusee/api.Pair]", "internal/bytealg.abigen_runtime_cmpstring"], unfollowed := true, recurses := true, apart := false }
def CostAddsSaid : Prop := costAddsRow.holds Try.pinned (OpenSpec.ofChange costAddsSpec)

/-- ITS FALSE NEIGHBOUR: 'it returns false'. Refute it at one input. -/
def costAddsWrong : ChangeSpec := { name := "costAdds", fn := fun _ => fun
  | [d1, d2] => { results := [.lit (.bool false)], args := [d1, d2] }
  | _ => none }
def CostAddsWrongFalsely : Prop := costAddsRow.holds Try.pinned (OpenSpec.ofChange costAddsWrong)

/-- 'fuseelaw32.CostBlocks': WHATEVER THE INPUT: true; the input reads as it did. -/
def costBlocksSpec : ChangeSpec := { name := "costBlocks", fn := fun _ => fun
  | [d1, d2] => { results := [.lit (.bool true)], args := [d1, d2] }
  | _ => none }
def costBlocksRow : OpenClaim := { program := "ytjndgegfonhhfaa", sum := "347dee2374a91a0e5c3efc5a4d1479184476358c61839d583b7340b8679c739f", func := "fusee/fuseelaw32.CostBlocks", spec := "costBlocks", inPlace := ["slices.overlaps[fusee/api.Pair]", "internal/bytealg.abigen_runtime_cmpstring"], unfollowed := true, recurses := true, loops := true, apart := false }
def CostBlocksSaid : Prop := costBlocksRow.holds Try.pinned (OpenSpec.ofChange costBlocksSpec)

/-- ITS FALSE NEIGHBOUR: 'it returns false'. Refute it at one input. -/
def costBlocksWrong : ChangeSpec := { name := "costBlocks", fn := fun _ => fun
  | [d1, d2] => { results := [.lit (.bool false)], args := [d1, d2] }
  | _ => none }
def CostBlocksWrongFalsely : Prop := costBlocksRow.holds Try.pinned (OpenSpec.ofChange costBlocksWrong)

/-- 'fuseelaw32.CostSums': WHATEVER THE INPUT: true; the input reads as it did. -/
def costSumsSpec : ChangeSpec := { name := "costSums", fn := fun _ => fun
  | [d1, d2, d3] => { results := [.lit (.bool true)], args := [d1, d2, d3] }
  | _ => none }
def costSumsRow : OpenClaim := { program := "ytjndgegfonhhfaa", sum := "347dee2374a91a0e5c3efc5a4d1479184476358c61839d583b7340b8679c739f", func := "fusee/fuseelaw32.CostSums", spec := "costSums", inPlace := ["slices.overlaps[fusee/api.Pair]", "internal/bytealg.abigen_runtime_cmpstring"], unfollowed := true, recurses := true, apart := false }
def CostSumsSaid : Prop := costSumsRow.holds Try.pinned (OpenSpec.ofChange costSumsSpec)

/-- ITS FALSE NEIGHBOUR: 'it returns false'. Refute it at one input. -/
def costSumsWrong : ChangeSpec := { name := "costSums", fn := fun _ => fun
  | [d1, d2, d3] => { results := [.lit (.bool false)], args := [d1, d2, d3] }
  | _ => none }
def CostSumsWrongFalsely : Prop := costSumsRow.holds Try.pinned (OpenSpec.ofChange costSumsWrong)

/-- 'fuseelaw32.CostCloses': WHATEVER THE INPUT: true; the input reads as it did. -/
def costClosesSpec : ChangeSpec := { name := "costCloses", fn := fun _ => fun
  | [d1, d2, d3] => { results := [.lit (.bool true)], args := [d1, d2, d3] }
  | _ => none }
def costClosesRow : OpenClaim := { program := "ytjndgegfonhhfaa", sum := "347dee2374a91a0e5c3efc5a4d1479184476358c61839d583b7340b8679c739f", func := "fusee/fuseelaw32.CostCloses", spec := "costCloses", inPlace := ["slices.overlaps[fusee/api.Pair]", "internal/bytealg.abigen_runtime_cmpstring"], unfollowed := true, recurses := true, apart := false }
def CostClosesSaid : Prop := costClosesRow.holds Try.pinned (OpenSpec.ofChange costClosesSpec)

/-- ITS FALSE NEIGHBOUR: 'it returns false'. Refute it at one input. -/
def costClosesWrong : ChangeSpec := { name := "costCloses", fn := fun _ => fun
  | [d1, d2, d3] => { results := [.lit (.bool false)], args := [d1, d2, d3] }
  | _ => none }
def CostClosesWrongFalsely : Prop := costClosesRow.holds Try.pinned (OpenSpec.ofChange costClosesWrong)

/-- 'fuseelaw32.CostClosing': WHATEVER THE INPUT: true; the input reads as it did. -/
def costClosingSpec : ChangeSpec := { name := "costClosing", fn := fun _ => fun
  | [d] => { results := [.lit (.bool true)], args := [d] }
  | _ => none }
def costClosingRow : OpenClaim := { program := "ytjndgegfonhhfaa", sum := "347dee2374a91a0e5c3efc5a4d1479184476358c61839d583b7340b8679c739f", func := "fusee/fuseelaw32.CostClosing", spec := "costClosing", inPlace := ["slices.overlaps[fusee/api.Pair]", "internal/bytealg.abigen_runtime_cmpstring", "sync/atomic.StoreUint64", "sync/atomic.LoadUint64", "sync/atomic.CompareAndSwapUint64", "sync/atomic.AddInt64", "sync/atomic.LoadInt64"], unfollowed := true, recurses := true, apart := false }
def CostClosingSaid : Prop := costClosingRow.holds Try.pinned (OpenSpec.ofChange costClosingSpec)

/-- ITS FALSE NEIGHBOUR: 'it returns false'. Refute it at one input. -/
def costClosingWrong : ChangeSpec := { name := "costClosing", fn := fun _ => fun
  | [d] => { results := [.lit (.bool false)], args := [d] }
  | _ => none }
def CostClosingWrongFalsely : Prop := costClosingRow.holds Try.pinned (OpenSpec.ofChange costClosingWrong)

/- THE SECOND FORM. 'bulk': how many values and letters a reading holds, each counted each time it is reached (what is shared counts as often as it is met; a slice's spare places count too). A statement '..UptoSaid' is the law's where the arguments, and the package variables that the reading takes, are together of bulk at most 1048576: NARROWER than '..Said'. Prove '..Said' where nothing that the law and all that it calls make is longer than what came in: it says more and counts as full. Else prove '..UptoSaid'. A law counts once. -/
mutual
def uptoBulk {H : Type} : DataW H → Nat
  | .lit (.string bytes) => bytes.length + 1
  | .lit _ => 1
  | .nil => 1
  | .ptr d => uptoBulk d + 1
  | .slice elems spare => uptoBulkAll elems + uptoBulkAll spare + 1
  | .agg parts => uptoBulkAll parts + 1
  | .iface _ d => uptoBulk d + 1
  | .map entries => uptoBulkEntries entries + 1
  | .held _ => 1
def uptoBulkAll {H : Type} : List (DataW H) → Nat
  | [] => 0
  | d :: r => uptoBulk d + uptoBulkAll r
def uptoBulkEntries {H : Type} : List (Lit × DataW H) → Nat
  | [] => 0
  | x :: r => uptoBulkEntry x + uptoBulkEntries r
def uptoBulkEntry {H : Type} : Lit × DataW H → Nat
  | (.string bytes, d) => bytes.length + uptoBulk d + 1
  | (_, d) => uptoBulk d + 1
 end
def uptoSmall : (H : Type) → List (DataW H) → Bool := fun _ ds => decide (uptoBulkAll ds ≤ 1048576)
def OpenSpec.upto (s : _root_.Go.ChangeSpec) : _root_.Go.OpenSpec := { _root_.Go.OpenSpec.ofChange s with cond := some uptoSmall }

/-- 'fuseelaw32.CostCalls', WHERE WHAT IT READS IS OF BULK AT MOST 1048576: true; the input reads as it did. -/
def costCallsUptoRow : OpenClaim := { program := "ytjndgegfonhhfaa", sum := "347dee2374a91a0e5c3efc5a4d1479184476358c61839d583b7340b8679c739f", func := "fusee/fuseelaw32.CostCalls", spec := "costCalls", inPlace := ["slices.overlaps[fusee/api.Pair]", "internal/bytealg.abigen_runtime_cmpstring"], unfollowed := true, recurses := true, loops := true, apart := false, narrowed := true }
def CostCallsUptoSaid : Prop := costCallsUptoRow.holds Try.pinned (OpenSpec.upto costCallsSpec)

/-- 'fuseelaw32.CostAdds', WHERE WHAT IT READS IS OF BULK AT MOST 1048576: true; the input reads as it did. -/
def costAddsUptoRow : OpenClaim := { program := "ytjndgegfonhhfaa", sum := "347dee2374a91a0e5c3efc5a4d1479184476358c61839d583b7340b8679c739f", func := "fusee/fuseelaw32.CostAdds", spec := "costAdds", inPlace := ["slices.overlaps[fusee/api.Pair]", "internal/bytealg.abigen_runtime_cmpstring"], unfollowed := true, recurses := true, apart := false, narrowed := true }
def CostAddsUptoSaid : Prop := costAddsUptoRow.holds Try.pinned (OpenSpec.upto costAddsSpec)

/-- 'fuseelaw32.CostBlocks', WHERE WHAT IT READS IS OF BULK AT MOST 1048576: true; the input reads as it did. -/
def costBlocksUptoRow : OpenClaim := { program := "ytjndgegfonhhfaa", sum := "347dee2374a91a0e5c3efc5a4d1479184476358c61839d583b7340b8679c739f", func := "fusee/fuseelaw32.CostBlocks", spec := "costBlocks", inPlace := ["slices.overlaps[fusee/api.Pair]", "internal/bytealg.abigen_runtime_cmpstring"], unfollowed := true, recurses := true, loops := true, apart := false, narrowed := true }
def CostBlocksUptoSaid : Prop := costBlocksUptoRow.holds Try.pinned (OpenSpec.upto costBlocksSpec)

/-- 'fuseelaw32.CostSums', WHERE WHAT IT READS IS OF BULK AT MOST 1048576: true; the input reads as it did. -/
def costSumsUptoRow : OpenClaim := { program := "ytjndgegfonhhfaa", sum := "347dee2374a91a0e5c3efc5a4d1479184476358c61839d583b7340b8679c739f", func := "fusee/fuseelaw32.CostSums", spec := "costSums", inPlace := ["slices.overlaps[fusee/api.Pair]", "internal/bytealg.abigen_runtime_cmpstring"], unfollowed := true, recurses := true, apart := false, narrowed := true }
def CostSumsUptoSaid : Prop := costSumsUptoRow.holds Try.pinned (OpenSpec.upto costSumsSpec)

/-- 'fuseelaw32.CostCloses', WHERE WHAT IT READS IS OF BULK AT MOST 1048576: true; the input reads as it did. -/
def costClosesUptoRow : OpenClaim := { program := "ytjndgegfonhhfaa", sum := "347dee2374a91a0e5c3efc5a4d1479184476358c61839d583b7340b8679c739f", func := "fusee/fuseelaw32.CostCloses", spec := "costCloses", inPlace := ["slices.overlaps[fusee/api.Pair]", "internal/bytealg.abigen_runtime_cmpstring"], unfollowed := true, recurses := true, apart := false, narrowed := true }
def CostClosesUptoSaid : Prop := costClosesUptoRow.holds Try.pinned (OpenSpec.upto costClosesSpec)

/-- 'fuseelaw32.CostClosing', WHERE WHAT IT READS IS OF BULK AT MOST 1048576: true; the input reads as it did. -/
def costClosingUptoRow : OpenClaim := { program := "ytjndgegfonhhfaa", sum := "347dee2374a91a0e5c3efc5a4d1479184476358c61839d583b7340b8679c739f", func := "fusee/fuseelaw32.CostClosing", spec := "costClosing", inPlace := ["slices.overlaps[fusee/api.Pair]", "internal/bytealg.abigen_runtime_cmpstring", "sync/atomic.StoreUint64", "sync/atomic.LoadUint64", "sync/atomic.CompareAndSwapUint64", "sync/atomic.AddInt64", "sync/atomic.LoadInt64"], unfollowed := true, recurses := true, apart := false, narrowed := true }
def CostClosingUptoSaid : Prop := costClosingUptoRow.holds Try.pinned (OpenSpec.upto costClosingSpec)

end Rows
end Go.Proofs.Ytjndgegfonhhfaa
