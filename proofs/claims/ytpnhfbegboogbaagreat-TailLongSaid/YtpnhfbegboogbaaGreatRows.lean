/-
  No cell of these rows narrows 'for every input' (looked for: loops, veiled, ifaces, maps, wideKeys, modest, calm, conditions, laid).
  DERIVED. THE GIVEN ROWS OF THIS SEAT. 6 by the template 'for every input the law returns true; each argument reads behind the call as it read before'; 0 by the template 'total and deterministic' (their statements: YtpnhfbegboogbaaGreatTotals.lean).
  GIVEN WITH THE SEED: the statements are not yours to turn. If you find one false, say at which input.
  Laid BY PROGRAM, IN A SANDBOX (cutbox-rows.mjs): the forced cells as the released guide's own fill.sh prints them over the translation f9dfd3e74d827513… (all of the seat's roots in one cut). By AI agents, Wed Nov 11 2026. No macro, syntax, notation, axiom, sorry.
-/
import Derived.Test.YtpnhfbegboogbaaGreatChecked
import GoSem.Claim
import GoSem.ClaimJoined
import GoSem.ClaimMapViews
import Derived.JoinedTies
import Derived.KernelRfl
namespace Go.Proofs.YtpnhfbegboogbaaGreat
/- THE CELL 'sum', in the pinned program and in every row, IS THE sha256 OF THE DUMP (.gsa) THAT YtpnhfbegboogbaaGreatProg.lean LOADS. Nothing in Lean hashes anything: it is a label: what it is worth is what the hold of that sum in a sandbox is worth. -/
noncomputable def Tryz.pinned : Pinned := { name := "ytpnhfbegboogbaagreat", sum := "f9dfd3e74d827513f6ec1757b62621b7603d704c0d45abaa60947380bc1b5305", checked := Tryz.checked }
namespace Rows
def none {H : Type} : Left H := { results := [], args := [] }

/-- 'fuseelaw18.TailOnce': WHATEVER THE INPUT: true; the input reads as it did. -/
def tailOnceSpec : ChangeSpec := { name := "tailOnce", fn := fun _ => fun
  | [d1, d2] => { results := [.lit (.bool true)], args := [d1, d2] }
  | _ => none }
def tailOnceRow : OpenClaim := { program := "ytpnhfbegboogbaagreat", sum := "f9dfd3e74d827513f6ec1757b62621b7603d704c0d45abaa60947380bc1b5305", func := "fusee/fuseelaw18.TailOnce", spec := "tailOnce", inPlace := ["sync/atomic.StoreUint64", "sync/atomic.AddInt64", "sync/atomic.LoadUint32", "(*internal/sync.Mutex).Lock", "internal/race.Disable", "sync/atomic.CompareAndSwapInt32", "internal/race.Enable", "internal/race.Acquire", "(*internal/sync.Mutex).lockSlow", "internal/sync.runtime_canSpin", "internal/sync.runtime_doSpin", "internal/sync.throw", "internal/sync.runtime_nanotime", "internal/sync.runtime_SemacquireMutex", "sync/atomic.AddInt32", "(*internal/sync.Mutex).Unlock", "internal/race.ReleaseMerge", "(*internal/sync.Mutex).unlockSlow", "internal/sync.fatal", "internal/sync.runtime_Semrelease", "sync/atomic.StoreUint32", "sync/atomic.LoadUint64", "sync/atomic.CompareAndSwapUint64", "internal/bytealg.abigen_runtime_cmpstring", "sync/atomic.AddUint64", "slices.overlaps[fusee/api.Link]", "sync/atomic.SwapUint64"], unfollowed := true, recurses := true, apart := false }
def TailOnceSaid : Prop := tailOnceRow.holds Tryz.pinned (OpenSpec.ofChange tailOnceSpec)

/-- ITS FALSE NEIGHBOUR: 'it returns false'. Refute it at one input. -/
def tailOnceWrong : ChangeSpec := { name := "tailOnce", fn := fun _ => fun
  | [d1, d2] => { results := [.lit (.bool false)], args := [d1, d2] }
  | _ => none }
def TailOnceWrongFalsely : Prop := tailOnceRow.holds Tryz.pinned (OpenSpec.ofChange tailOnceWrong)

/-- 'fuseelaw18.TailLong': WHATEVER THE INPUT: true; the input reads as it did. -/
def tailLongSpec : ChangeSpec := { name := "tailLong", fn := fun _ => fun
  | [d1, d2] => { results := [.lit (.bool true)], args := [d1, d2] }
  | _ => none }
def tailLongRow : OpenClaim := { program := "ytpnhfbegboogbaagreat", sum := "f9dfd3e74d827513f6ec1757b62621b7603d704c0d45abaa60947380bc1b5305", func := "fusee/fuseelaw18.TailLong", spec := "tailLong", inPlace := ["sync/atomic.StoreUint64", "sync/atomic.AddInt64", "sync/atomic.LoadUint32", "(*internal/sync.Mutex).Lock", "internal/race.Disable", "sync/atomic.CompareAndSwapInt32", "internal/race.Enable", "internal/race.Acquire", "(*internal/sync.Mutex).lockSlow", "internal/sync.runtime_canSpin", "internal/sync.runtime_doSpin", "internal/sync.throw", "internal/sync.runtime_nanotime", "internal/sync.runtime_SemacquireMutex", "sync/atomic.AddInt32", "(*internal/sync.Mutex).Unlock", "internal/race.ReleaseMerge", "(*internal/sync.Mutex).unlockSlow", "internal/sync.fatal", "internal/sync.runtime_Semrelease", "sync/atomic.StoreUint32", "sync/atomic.LoadUint64", "sync/atomic.CompareAndSwapUint64", "internal/bytealg.abigen_runtime_cmpstring", "sync/atomic.AddUint64", "slices.overlaps[fusee/api.Link]", "sync/atomic.SwapUint64"], unfollowed := true, recurses := true, apart := false }
def TailLongSaid : Prop := tailLongRow.holds Tryz.pinned (OpenSpec.ofChange tailLongSpec)

/-- ITS FALSE NEIGHBOUR: 'it returns false'. Refute it at one input. -/
def tailLongWrong : ChangeSpec := { name := "tailLong", fn := fun _ => fun
  | [d1, d2] => { results := [.lit (.bool false)], args := [d1, d2] }
  | _ => none }
def TailLongWrongFalsely : Prop := tailLongRow.holds Tryz.pinned (OpenSpec.ofChange tailLongWrong)

/-- 'fuseelaw18.TailTurns': WHATEVER THE INPUT: true; the input reads as it did. -/
def tailTurnsSpec : ChangeSpec := { name := "tailTurns", fn := fun _ => fun
  | [d1, d2, d3] => { results := [.lit (.bool true)], args := [d1, d2, d3] }
  | _ => none }
def tailTurnsRow : OpenClaim := { program := "ytpnhfbegboogbaagreat", sum := "f9dfd3e74d827513f6ec1757b62621b7603d704c0d45abaa60947380bc1b5305", func := "fusee/fuseelaw18.TailTurns", spec := "tailTurns", inPlace := ["sync/atomic.StoreUint64", "sync/atomic.AddInt64", "sync/atomic.LoadUint32", "(*internal/sync.Mutex).Lock", "internal/race.Disable", "sync/atomic.CompareAndSwapInt32", "internal/race.Enable", "internal/race.Acquire", "(*internal/sync.Mutex).lockSlow", "internal/sync.runtime_canSpin", "internal/sync.runtime_doSpin", "internal/sync.throw", "internal/sync.runtime_nanotime", "internal/sync.runtime_SemacquireMutex", "sync/atomic.AddInt32", "(*internal/sync.Mutex).Unlock", "internal/race.ReleaseMerge", "(*internal/sync.Mutex).unlockSlow", "internal/sync.fatal", "internal/sync.runtime_Semrelease", "sync/atomic.StoreUint32", "sync/atomic.LoadUint64", "sync/atomic.CompareAndSwapUint64", "internal/bytealg.abigen_runtime_cmpstring", "sync/atomic.AddUint64", "slices.overlaps[fusee/api.Link]", "sync/atomic.SwapUint64"], unfollowed := true, recurses := true, apart := false }
def TailTurnsSaid : Prop := tailTurnsRow.holds Tryz.pinned (OpenSpec.ofChange tailTurnsSpec)

/-- ITS FALSE NEIGHBOUR: 'it returns false'. Refute it at one input. -/
def tailTurnsWrong : ChangeSpec := { name := "tailTurns", fn := fun _ => fun
  | [d1, d2, d3] => { results := [.lit (.bool false)], args := [d1, d2, d3] }
  | _ => none }
def TailTurnsWrongFalsely : Prop := tailTurnsRow.holds Tryz.pinned (OpenSpec.ofChange tailTurnsWrong)

/-- 'fuseelaw18.TailSpace': WHATEVER THE INPUT: true; the input reads as it did. -/
def tailSpaceSpec : ChangeSpec := { name := "tailSpace", fn := fun _ => fun
  | [d1, d2] => { results := [.lit (.bool true)], args := [d1, d2] }
  | _ => none }
def tailSpaceRow : OpenClaim := { program := "ytpnhfbegboogbaagreat", sum := "f9dfd3e74d827513f6ec1757b62621b7603d704c0d45abaa60947380bc1b5305", func := "fusee/fuseelaw18.TailSpace", spec := "tailSpace", inPlace := ["sync/atomic.StoreUint64", "sync/atomic.AddInt64", "sync/atomic.LoadUint32", "(*internal/sync.Mutex).Lock", "internal/race.Disable", "sync/atomic.CompareAndSwapInt32", "internal/race.Enable", "internal/race.Acquire", "(*internal/sync.Mutex).lockSlow", "internal/sync.runtime_canSpin", "internal/sync.runtime_doSpin", "internal/sync.throw", "internal/sync.runtime_nanotime", "internal/sync.runtime_SemacquireMutex", "sync/atomic.AddInt32", "(*internal/sync.Mutex).Unlock", "internal/race.ReleaseMerge", "(*internal/sync.Mutex).unlockSlow", "internal/sync.fatal", "internal/sync.runtime_Semrelease", "sync/atomic.StoreUint32", "sync/atomic.LoadUint64", "sync/atomic.CompareAndSwapUint64", "internal/bytealg.abigen_runtime_cmpstring", "sync/atomic.AddUint64", "slices.overlaps[fusee/api.Link]", "sync/atomic.SwapUint64"], unfollowed := true, recurses := true, apart := false }
def TailSpaceSaid : Prop := tailSpaceRow.holds Tryz.pinned (OpenSpec.ofChange tailSpaceSpec)

/-- ITS FALSE NEIGHBOUR: 'it returns false'. Refute it at one input. -/
def tailSpaceWrong : ChangeSpec := { name := "tailSpace", fn := fun _ => fun
  | [d1, d2] => { results := [.lit (.bool false)], args := [d1, d2] }
  | _ => none }
def TailSpaceWrongFalsely : Prop := tailSpaceRow.holds Tryz.pinned (OpenSpec.ofChange tailSpaceWrong)

/-- 'fuseelaw18.TailEpochs': WHATEVER THE INPUT: true; the input reads as it did. -/
def tailEpochsSpec : ChangeSpec := { name := "tailEpochs", fn := fun _ => fun
  | [d1, d2] => { results := [.lit (.bool true)], args := [d1, d2] }
  | _ => none }
def tailEpochsRow : OpenClaim := { program := "ytpnhfbegboogbaagreat", sum := "f9dfd3e74d827513f6ec1757b62621b7603d704c0d45abaa60947380bc1b5305", func := "fusee/fuseelaw18.TailEpochs", spec := "tailEpochs", inPlace := ["sync/atomic.StoreUint64", "sync/atomic.AddInt64", "sync/atomic.LoadUint32", "(*internal/sync.Mutex).Lock", "internal/race.Disable", "sync/atomic.CompareAndSwapInt32", "internal/race.Enable", "internal/race.Acquire", "(*internal/sync.Mutex).lockSlow", "internal/sync.runtime_canSpin", "internal/sync.runtime_doSpin", "internal/sync.throw", "internal/sync.runtime_nanotime", "internal/sync.runtime_SemacquireMutex", "sync/atomic.AddInt32", "(*internal/sync.Mutex).Unlock", "internal/race.ReleaseMerge", "(*internal/sync.Mutex).unlockSlow", "internal/sync.fatal", "internal/sync.runtime_Semrelease", "sync/atomic.StoreUint32", "sync/atomic.LoadUint64", "sync/atomic.CompareAndSwapUint64", "internal/bytealg.abigen_runtime_cmpstring", "sync/atomic.AddUint64", "slices.overlaps[fusee/api.Link]", "sync/atomic.SwapUint64"], unfollowed := true, recurses := true, apart := false }
def TailEpochsSaid : Prop := tailEpochsRow.holds Tryz.pinned (OpenSpec.ofChange tailEpochsSpec)

/-- ITS FALSE NEIGHBOUR: 'it returns false'. Refute it at one input. -/
def tailEpochsWrong : ChangeSpec := { name := "tailEpochs", fn := fun _ => fun
  | [d1, d2] => { results := [.lit (.bool false)], args := [d1, d2] }
  | _ => none }
def TailEpochsWrongFalsely : Prop := tailEpochsRow.holds Tryz.pinned (OpenSpec.ofChange tailEpochsWrong)

/-- 'fuseelaw18.TailHeld': WHATEVER THE INPUT: true; the input reads as it did. -/
def tailHeldSpec : ChangeSpec := { name := "tailHeld", fn := fun _ => fun
  | [d1, d2] => { results := [.lit (.bool true)], args := [d1, d2] }
  | _ => none }
def tailHeldRow : OpenClaim := { program := "ytpnhfbegboogbaagreat", sum := "f9dfd3e74d827513f6ec1757b62621b7603d704c0d45abaa60947380bc1b5305", func := "fusee/fuseelaw18.TailHeld", spec := "tailHeld", inPlace := ["sync/atomic.StoreUint64", "sync/atomic.AddInt64", "sync/atomic.LoadUint32", "(*internal/sync.Mutex).Lock", "internal/race.Disable", "sync/atomic.CompareAndSwapInt32", "internal/race.Enable", "internal/race.Acquire", "(*internal/sync.Mutex).lockSlow", "internal/sync.runtime_canSpin", "internal/sync.runtime_doSpin", "internal/sync.throw", "internal/sync.runtime_nanotime", "internal/sync.runtime_SemacquireMutex", "sync/atomic.AddInt32", "(*internal/sync.Mutex).Unlock", "internal/race.ReleaseMerge", "(*internal/sync.Mutex).unlockSlow", "internal/sync.fatal", "internal/sync.runtime_Semrelease", "sync/atomic.StoreUint32", "sync/atomic.LoadUint64", "sync/atomic.CompareAndSwapUint64", "internal/bytealg.abigen_runtime_cmpstring", "sync/atomic.AddUint64", "slices.overlaps[fusee/api.Link]", "sync/atomic.SwapUint64"], unfollowed := true, recurses := true, apart := false }
def TailHeldSaid : Prop := tailHeldRow.holds Tryz.pinned (OpenSpec.ofChange tailHeldSpec)

/-- ITS FALSE NEIGHBOUR: 'it returns false'. Refute it at one input. -/
def tailHeldWrong : ChangeSpec := { name := "tailHeld", fn := fun _ => fun
  | [d1, d2] => { results := [.lit (.bool false)], args := [d1, d2] }
  | _ => none }
def TailHeldWrongFalsely : Prop := tailHeldRow.holds Tryz.pinned (OpenSpec.ofChange tailHeldWrong)

/- THE SECOND FORM. 'bulk': how many values and letters a reading holds, each counted each time it is reached (what is shared counts as often as it is met; a slice's spare places count too). A statement '..UptoSaid' is the law's where the arguments, and the package variables that the reading takes, are together of bulk at most 1048576: NARROWER than '..Said'. Prove '..Said' where nothing that the law and all that it calls make is longer than what came in: it says more and counts as full. Else prove '..UptoSaid'. A law counts once. -/
mutual
def uptoBulk {H : Type} : DataW H → Nat
  | .lit (.string bytes) => bytes.length + 1
  | .lit _ => 1
  | .nil => 1
  | .ptr d => uptoBulk d + 1
  | .slice elems spare => uptoBulkAll elems + uptoBulkAll spare + 1
  | .agg parts => uptoBulkAll parts + 1
  | .iface _ d => uptoBulk d + 1
  | .map entries => uptoBulkEntries entries + 1
  | .held _ => 1
def uptoBulkAll {H : Type} : List (DataW H) → Nat
  | [] => 0
  | d :: r => uptoBulk d + uptoBulkAll r
def uptoBulkEntries {H : Type} : List (Lit × DataW H) → Nat
  | [] => 0
  | x :: r => uptoBulkEntry x + uptoBulkEntries r
def uptoBulkEntry {H : Type} : Lit × DataW H → Nat
  | (.string bytes, d) => bytes.length + uptoBulk d + 1
  | (_, d) => uptoBulk d + 1
 end
def uptoSmall : (H : Type) → List (DataW H) → Bool := fun _ ds => decide (uptoBulkAll ds ≤ 1048576)
def OpenSpec.upto (s : _root_.Go.ChangeSpec) : _root_.Go.OpenSpec := { _root_.Go.OpenSpec.ofChange s with cond := some uptoSmall }

/-- 'fuseelaw18.TailOnce', WHERE WHAT IT READS IS OF BULK AT MOST 1048576: true; the input reads as it did. -/
def tailOnceUptoRow : OpenClaim := { program := "ytpnhfbegboogbaagreat", sum := "f9dfd3e74d827513f6ec1757b62621b7603d704c0d45abaa60947380bc1b5305", func := "fusee/fuseelaw18.TailOnce", spec := "tailOnce", inPlace := ["sync/atomic.StoreUint64", "sync/atomic.AddInt64", "sync/atomic.LoadUint32", "(*internal/sync.Mutex).Lock", "internal/race.Disable", "sync/atomic.CompareAndSwapInt32", "internal/race.Enable", "internal/race.Acquire", "(*internal/sync.Mutex).lockSlow", "internal/sync.runtime_canSpin", "internal/sync.runtime_doSpin", "internal/sync.throw", "internal/sync.runtime_nanotime", "internal/sync.runtime_SemacquireMutex", "sync/atomic.AddInt32", "(*internal/sync.Mutex).Unlock", "internal/race.ReleaseMerge", "(*internal/sync.Mutex).unlockSlow", "internal/sync.fatal", "internal/sync.runtime_Semrelease", "sync/atomic.StoreUint32", "sync/atomic.LoadUint64", "sync/atomic.CompareAndSwapUint64", "internal/bytealg.abigen_runtime_cmpstring", "sync/atomic.AddUint64", "slices.overlaps[fusee/api.Link]", "sync/atomic.SwapUint64"], unfollowed := true, recurses := true, apart := false, narrowed := true }
def TailOnceUptoSaid : Prop := tailOnceUptoRow.holds Tryz.pinned (OpenSpec.upto tailOnceSpec)

/-- 'fuseelaw18.TailLong', WHERE WHAT IT READS IS OF BULK AT MOST 1048576: true; the input reads as it did. -/
def tailLongUptoRow : OpenClaim := { program := "ytpnhfbegboogbaagreat", sum := "f9dfd3e74d827513f6ec1757b62621b7603d704c0d45abaa60947380bc1b5305", func := "fusee/fuseelaw18.TailLong", spec := "tailLong", inPlace := ["sync/atomic.StoreUint64", "sync/atomic.AddInt64", "sync/atomic.LoadUint32", "(*internal/sync.Mutex).Lock", "internal/race.Disable", "sync/atomic.CompareAndSwapInt32", "internal/race.Enable", "internal/race.Acquire", "(*internal/sync.Mutex).lockSlow", "internal/sync.runtime_canSpin", "internal/sync.runtime_doSpin", "internal/sync.throw", "internal/sync.runtime_nanotime", "internal/sync.runtime_SemacquireMutex", "sync/atomic.AddInt32", "(*internal/sync.Mutex).Unlock", "internal/race.ReleaseMerge", "(*internal/sync.Mutex).unlockSlow", "internal/sync.fatal", "internal/sync.runtime_Semrelease", "sync/atomic.StoreUint32", "sync/atomic.LoadUint64", "sync/atomic.CompareAndSwapUint64", "internal/bytealg.abigen_runtime_cmpstring", "sync/atomic.AddUint64", "slices.overlaps[fusee/api.Link]", "sync/atomic.SwapUint64"], unfollowed := true, recurses := true, apart := false, narrowed := true }
def TailLongUptoSaid : Prop := tailLongUptoRow.holds Tryz.pinned (OpenSpec.upto tailLongSpec)

/-- 'fuseelaw18.TailTurns', WHERE WHAT IT READS IS OF BULK AT MOST 1048576: true; the input reads as it did. -/
def tailTurnsUptoRow : OpenClaim := { program := "ytpnhfbegboogbaagreat", sum := "f9dfd3e74d827513f6ec1757b62621b7603d704c0d45abaa60947380bc1b5305", func := "fusee/fuseelaw18.TailTurns", spec := "tailTurns", inPlace := ["sync/atomic.StoreUint64", "sync/atomic.AddInt64", "sync/atomic.LoadUint32", "(*internal/sync.Mutex).Lock", "internal/race.Disable", "sync/atomic.CompareAndSwapInt32", "internal/race.Enable", "internal/race.Acquire", "(*internal/sync.Mutex).lockSlow", "internal/sync.runtime_canSpin", "internal/sync.runtime_doSpin", "internal/sync.throw", "internal/sync.runtime_nanotime", "internal/sync.runtime_SemacquireMutex", "sync/atomic.AddInt32", "(*internal/sync.Mutex).Unlock", "internal/race.ReleaseMerge", "(*internal/sync.Mutex).unlockSlow", "internal/sync.fatal", "internal/sync.runtime_Semrelease", "sync/atomic.StoreUint32", "sync/atomic.LoadUint64", "sync/atomic.CompareAndSwapUint64", "internal/bytealg.abigen_runtime_cmpstring", "sync/atomic.AddUint64", "slices.overlaps[fusee/api.Link]", "sync/atomic.SwapUint64"], unfollowed := true, recurses := true, apart := false, narrowed := true }
def TailTurnsUptoSaid : Prop := tailTurnsUptoRow.holds Tryz.pinned (OpenSpec.upto tailTurnsSpec)

/-- 'fuseelaw18.TailSpace', WHERE WHAT IT READS IS OF BULK AT MOST 1048576: true; the input reads as it did. -/
def tailSpaceUptoRow : OpenClaim := { program := "ytpnhfbegboogbaagreat", sum := "f9dfd3e74d827513f6ec1757b62621b7603d704c0d45abaa60947380bc1b5305", func := "fusee/fuseelaw18.TailSpace", spec := "tailSpace", inPlace := ["sync/atomic.StoreUint64", "sync/atomic.AddInt64", "sync/atomic.LoadUint32", "(*internal/sync.Mutex).Lock", "internal/race.Disable", "sync/atomic.CompareAndSwapInt32", "internal/race.Enable", "internal/race.Acquire", "(*internal/sync.Mutex).lockSlow", "internal/sync.runtime_canSpin", "internal/sync.runtime_doSpin", "internal/sync.throw", "internal/sync.runtime_nanotime", "internal/sync.runtime_SemacquireMutex", "sync/atomic.AddInt32", "(*internal/sync.Mutex).Unlock", "internal/race.ReleaseMerge", "(*internal/sync.Mutex).unlockSlow", "internal/sync.fatal", "internal/sync.runtime_Semrelease", "sync/atomic.StoreUint32", "sync/atomic.LoadUint64", "sync/atomic.CompareAndSwapUint64", "internal/bytealg.abigen_runtime_cmpstring", "sync/atomic.AddUint64", "slices.overlaps[fusee/api.Link]", "sync/atomic.SwapUint64"], unfollowed := true, recurses := true, apart := false, narrowed := true }
def TailSpaceUptoSaid : Prop := tailSpaceUptoRow.holds Tryz.pinned (OpenSpec.upto tailSpaceSpec)

/-- 'fuseelaw18.TailEpochs', WHERE WHAT IT READS IS OF BULK AT MOST 1048576: true; the input reads as it did. -/
def tailEpochsUptoRow : OpenClaim := { program := "ytpnhfbegboogbaagreat", sum := "f9dfd3e74d827513f6ec1757b62621b7603d704c0d45abaa60947380bc1b5305", func := "fusee/fuseelaw18.TailEpochs", spec := "tailEpochs", inPlace := ["sync/atomic.StoreUint64", "sync/atomic.AddInt64", "sync/atomic.LoadUint32", "(*internal/sync.Mutex).Lock", "internal/race.Disable", "sync/atomic.CompareAndSwapInt32", "internal/race.Enable", "internal/race.Acquire", "(*internal/sync.Mutex).lockSlow", "internal/sync.runtime_canSpin", "internal/sync.runtime_doSpin", "internal/sync.throw", "internal/sync.runtime_nanotime", "internal/sync.runtime_SemacquireMutex", "sync/atomic.AddInt32", "(*internal/sync.Mutex).Unlock", "internal/race.ReleaseMerge", "(*internal/sync.Mutex).unlockSlow", "internal/sync.fatal", "internal/sync.runtime_Semrelease", "sync/atomic.StoreUint32", "sync/atomic.LoadUint64", "sync/atomic.CompareAndSwapUint64", "internal/bytealg.abigen_runtime_cmpstring", "sync/atomic.AddUint64", "slices.overlaps[fusee/api.Link]", "sync/atomic.SwapUint64"], unfollowed := true, recurses := true, apart := false, narrowed := true }
def TailEpochsUptoSaid : Prop := tailEpochsUptoRow.holds Tryz.pinned (OpenSpec.upto tailEpochsSpec)

/-- 'fuseelaw18.TailHeld', WHERE WHAT IT READS IS OF BULK AT MOST 1048576: true; the input reads as it did. -/
def tailHeldUptoRow : OpenClaim := { program := "ytpnhfbegboogbaagreat", sum := "f9dfd3e74d827513f6ec1757b62621b7603d704c0d45abaa60947380bc1b5305", func := "fusee/fuseelaw18.TailHeld", spec := "tailHeld", inPlace := ["sync/atomic.StoreUint64", "sync/atomic.AddInt64", "sync/atomic.LoadUint32", "(*internal/sync.Mutex).Lock", "internal/race.Disable", "sync/atomic.CompareAndSwapInt32", "internal/race.Enable", "internal/race.Acquire", "(*internal/sync.Mutex).lockSlow", "internal/sync.runtime_canSpin", "internal/sync.runtime_doSpin", "internal/sync.throw", "internal/sync.runtime_nanotime", "internal/sync.runtime_SemacquireMutex", "sync/atomic.AddInt32", "(*internal/sync.Mutex).Unlock", "internal/race.ReleaseMerge", "(*internal/sync.Mutex).unlockSlow", "internal/sync.fatal", "internal/sync.runtime_Semrelease", "sync/atomic.StoreUint32", "sync/atomic.LoadUint64", "sync/atomic.CompareAndSwapUint64", "internal/bytealg.abigen_runtime_cmpstring", "sync/atomic.AddUint64", "slices.overlaps[fusee/api.Link]", "sync/atomic.SwapUint64"], unfollowed := true, recurses := true, apart := false, narrowed := true }
def TailHeldUptoSaid : Prop := tailHeldUptoRow.holds Tryz.pinned (OpenSpec.upto tailHeldSpec)

end Rows
end Go.Proofs.YtpnhfbegboogbaaGreat
