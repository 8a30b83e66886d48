/-
  NARROWER THAN 'FOR EVERY INPUT', by the rows' own cells (each row's printed sentence says how): PointAlone: loops.
  DERIVED. THE GIVEN ROWS OF THIS SEAT. 9 by the template 'for every input the law returns true; each argument reads behind the call as it read before'; 0 by the template 'total and deterministic' (their statements: YtenfleoejgjklaaGreatTotals.lean).
  GIVEN WITH THE SEED: the statements are not yours to turn. If you find one false, say at which input.
  Laid BY PROGRAM, IN A SANDBOX (cutbox-rows.mjs): the forced cells as the released guide's own fill.sh prints them over the translation 7ab20f08b83c52a1… (all of the seat's roots in one cut). By AI agents, Wed Nov 11 2026. No macro, syntax, notation, axiom, sorry.
-/
import Derived.Test.YtenfleoejgjklaaGreatChecked
import GoSem.Claim
import GoSem.ClaimJoined
import GoSem.ClaimMapViews
import Derived.JoinedTies
import Derived.KernelRfl
namespace Go.Proofs.YtenfleoejgjklaaGreat
/- THE CELL 'sum', in the pinned program and in every row, IS THE sha256 OF THE DUMP (.gsa) THAT YtenfleoejgjklaaGreatProg.lean LOADS. Nothing in Lean hashes anything: it is a label: what it is worth is what the hold of that sum in a sandbox is worth. -/
noncomputable def Tryz.pinned : Pinned := { name := "ytenfleoejgjklaagreat", sum := "7ab20f08b83c52a14fffa187eb59884017ec42f523fb6d933fdffba8961bc268", checked := Tryz.checked }
namespace Rows
def none {H : Type} : Left H := { results := [], args := [] }

/-- 'fuseelaw18.TailOnce': WHATEVER THE INPUT: true; the input reads as it did. -/
def tailOnceSpec : ChangeSpec := { name := "tailOnce", fn := fun _ => fun
  | [d1, d2] => { results := [.lit (.bool true)], args := [d1, d2] }
  | _ => none }
def tailOnceRow : OpenClaim := { program := "ytenfleoejgjklaagreat", sum := "7ab20f08b83c52a14fffa187eb59884017ec42f523fb6d933fdffba8961bc268", func := "fusee/fuseelaw18.TailOnce", spec := "tailOnce", inPlace := ["sync/atomic.StoreUint64", "sync/atomic.AddInt64", "sync/atomic.LoadUint32", "(*internal/sync.Mutex).Lock", "internal/race.Disable", "sync/atomic.CompareAndSwapInt32", "internal/race.Enable", "internal/race.Acquire", "(*internal/sync.Mutex).lockSlow", "internal/sync.runtime_canSpin", "internal/sync.runtime_doSpin", "internal/sync.throw", "internal/sync.runtime_nanotime", "internal/sync.runtime_SemacquireMutex", "sync/atomic.AddInt32", "(*internal/sync.Mutex).Unlock", "internal/race.ReleaseMerge", "(*internal/sync.Mutex).unlockSlow", "internal/sync.fatal", "internal/sync.runtime_Semrelease", "sync/atomic.StoreUint32", "sync/atomic.LoadUint64", "sync/atomic.CompareAndSwapUint64", "internal/bytealg.abigen_runtime_cmpstring", "sync/atomic.AddUint64", "slices.overlaps[fusee/api.Link]", "sync/atomic.SwapUint64"], unfollowed := true, recurses := true, apart := false }
def TailOnceSaid : Prop := tailOnceRow.holds Tryz.pinned (OpenSpec.ofChange tailOnceSpec)

/-- ITS FALSE NEIGHBOUR: 'it returns false'. Refute it at one input. -/
def tailOnceWrong : ChangeSpec := { name := "tailOnce", fn := fun _ => fun
  | [d1, d2] => { results := [.lit (.bool false)], args := [d1, d2] }
  | _ => none }
def TailOnceWrongFalsely : Prop := tailOnceRow.holds Tryz.pinned (OpenSpec.ofChange tailOnceWrong)

/-- 'fuseelaw18.TailEpochs': WHATEVER THE INPUT: true; the input reads as it did. -/
def tailEpochsSpec : ChangeSpec := { name := "tailEpochs", fn := fun _ => fun
  | [d1, d2] => { results := [.lit (.bool true)], args := [d1, d2] }
  | _ => none }
def tailEpochsRow : OpenClaim := { program := "ytenfleoejgjklaagreat", sum := "7ab20f08b83c52a14fffa187eb59884017ec42f523fb6d933fdffba8961bc268", func := "fusee/fuseelaw18.TailEpochs", spec := "tailEpochs", inPlace := ["sync/atomic.StoreUint64", "sync/atomic.AddInt64", "sync/atomic.LoadUint32", "(*internal/sync.Mutex).Lock", "internal/race.Disable", "sync/atomic.CompareAndSwapInt32", "internal/race.Enable", "internal/race.Acquire", "(*internal/sync.Mutex).lockSlow", "internal/sync.runtime_canSpin", "internal/sync.runtime_doSpin", "internal/sync.throw", "internal/sync.runtime_nanotime", "internal/sync.runtime_SemacquireMutex", "sync/atomic.AddInt32", "(*internal/sync.Mutex).Unlock", "internal/race.ReleaseMerge", "(*internal/sync.Mutex).unlockSlow", "internal/sync.fatal", "internal/sync.runtime_Semrelease", "sync/atomic.StoreUint32", "sync/atomic.LoadUint64", "sync/atomic.CompareAndSwapUint64", "internal/bytealg.abigen_runtime_cmpstring", "sync/atomic.AddUint64", "slices.overlaps[fusee/api.Link]", "sync/atomic.SwapUint64"], unfollowed := true, recurses := true, apart := false }
def TailEpochsSaid : Prop := tailEpochsRow.holds Tryz.pinned (OpenSpec.ofChange tailEpochsSpec)

/-- ITS FALSE NEIGHBOUR: 'it returns false'. Refute it at one input. -/
def tailEpochsWrong : ChangeSpec := { name := "tailEpochs", fn := fun _ => fun
  | [d1, d2] => { results := [.lit (.bool false)], args := [d1, d2] }
  | _ => none }
def TailEpochsWrongFalsely : Prop := tailEpochsRow.holds Tryz.pinned (OpenSpec.ofChange tailEpochsWrong)

/-- 'fuseelaw18.TailHeld': WHATEVER THE INPUT: true; the input reads as it did. -/
def tailHeldSpec : ChangeSpec := { name := "tailHeld", fn := fun _ => fun
  | [d1, d2] => { results := [.lit (.bool true)], args := [d1, d2] }
  | _ => none }
def tailHeldRow : OpenClaim := { program := "ytenfleoejgjklaagreat", sum := "7ab20f08b83c52a14fffa187eb59884017ec42f523fb6d933fdffba8961bc268", func := "fusee/fuseelaw18.TailHeld", spec := "tailHeld", inPlace := ["sync/atomic.StoreUint64", "sync/atomic.AddInt64", "sync/atomic.LoadUint32", "(*internal/sync.Mutex).Lock", "internal/race.Disable", "sync/atomic.CompareAndSwapInt32", "internal/race.Enable", "internal/race.Acquire", "(*internal/sync.Mutex).lockSlow", "internal/sync.runtime_canSpin", "internal/sync.runtime_doSpin", "internal/sync.throw", "internal/sync.runtime_nanotime", "internal/sync.runtime_SemacquireMutex", "sync/atomic.AddInt32", "(*internal/sync.Mutex).Unlock", "internal/race.ReleaseMerge", "(*internal/sync.Mutex).unlockSlow", "internal/sync.fatal", "internal/sync.runtime_Semrelease", "sync/atomic.StoreUint32", "sync/atomic.LoadUint64", "sync/atomic.CompareAndSwapUint64", "internal/bytealg.abigen_runtime_cmpstring", "sync/atomic.AddUint64", "slices.overlaps[fusee/api.Link]", "sync/atomic.SwapUint64"], unfollowed := true, recurses := true, apart := false }
def TailHeldSaid : Prop := tailHeldRow.holds Tryz.pinned (OpenSpec.ofChange tailHeldSpec)

/-- ITS FALSE NEIGHBOUR: 'it returns false'. Refute it at one input. -/
def tailHeldWrong : ChangeSpec := { name := "tailHeld", fn := fun _ => fun
  | [d1, d2] => { results := [.lit (.bool false)], args := [d1, d2] }
  | _ => none }
def TailHeldWrongFalsely : Prop := tailHeldRow.holds Tryz.pinned (OpenSpec.ofChange tailHeldWrong)

/-- 'fuseelaw17.PointTwice': WHATEVER THE INPUT: true; the input reads as it did. -/
def pointTwiceSpec : ChangeSpec := { name := "pointTwice", fn := fun _ => fun
  | [d1, d2, d3] => { results := [.lit (.bool true)], args := [d1, d2, d3] }
  | _ => none }
def pointTwiceRow : OpenClaim := { program := "ytenfleoejgjklaagreat", sum := "7ab20f08b83c52a14fffa187eb59884017ec42f523fb6d933fdffba8961bc268", func := "fusee/fuseelaw17.PointTwice", spec := "pointTwice", inPlace := ["sync/atomic.StoreUint64", "sync/atomic.AddInt64", "sync/atomic.LoadUint32", "(*internal/sync.Mutex).Lock", "internal/race.Disable", "sync/atomic.CompareAndSwapInt32", "internal/race.Enable", "internal/race.Acquire", "(*internal/sync.Mutex).lockSlow", "internal/sync.runtime_canSpin", "internal/sync.runtime_doSpin", "internal/sync.throw", "internal/sync.runtime_nanotime", "internal/sync.runtime_SemacquireMutex", "sync/atomic.AddInt32", "(*internal/sync.Mutex).Unlock", "internal/race.ReleaseMerge", "(*internal/sync.Mutex).unlockSlow", "internal/sync.fatal", "internal/sync.runtime_Semrelease", "sync/atomic.StoreUint32", "sync/atomic.LoadUint64", "sync/atomic.CompareAndSwapUint64", "internal/bytealg.abigen_runtime_cmpstring", "sync/atomic.AddUint64", "slices.overlaps[fusee/api.Link]", "sync/atomic.SwapUint64"], unfollowed := true, recurses := true, apart := false }
def PointTwiceSaid : Prop := pointTwiceRow.holds Tryz.pinned (OpenSpec.ofChange pointTwiceSpec)

/-- ITS FALSE NEIGHBOUR: 'it returns false'. Refute it at one input. -/
def pointTwiceWrong : ChangeSpec := { name := "pointTwice", fn := fun _ => fun
  | [d1, d2, d3] => { results := [.lit (.bool false)], args := [d1, d2, d3] }
  | _ => none }
def PointTwiceWrongFalsely : Prop := pointTwiceRow.holds Tryz.pinned (OpenSpec.ofChange pointTwiceWrong)

/-- 'fuseelaw17.PointLong': WHATEVER THE INPUT: true; the input reads as it did. -/
def pointLongSpec : ChangeSpec := { name := "pointLong", fn := fun _ => fun
  | [d1, d2, d3] => { results := [.lit (.bool true)], args := [d1, d2, d3] }
  | _ => none }
def pointLongRow : OpenClaim := { program := "ytenfleoejgjklaagreat", sum := "7ab20f08b83c52a14fffa187eb59884017ec42f523fb6d933fdffba8961bc268", func := "fusee/fuseelaw17.PointLong", spec := "pointLong", inPlace := ["sync/atomic.StoreUint64", "sync/atomic.AddInt64", "sync/atomic.LoadUint32", "(*internal/sync.Mutex).Lock", "internal/race.Disable", "sync/atomic.CompareAndSwapInt32", "internal/race.Enable", "internal/race.Acquire", "(*internal/sync.Mutex).lockSlow", "internal/sync.runtime_canSpin", "internal/sync.runtime_doSpin", "internal/sync.throw", "internal/sync.runtime_nanotime", "internal/sync.runtime_SemacquireMutex", "sync/atomic.AddInt32", "(*internal/sync.Mutex).Unlock", "internal/race.ReleaseMerge", "(*internal/sync.Mutex).unlockSlow", "internal/sync.fatal", "internal/sync.runtime_Semrelease", "sync/atomic.StoreUint32", "sync/atomic.LoadUint64", "sync/atomic.CompareAndSwapUint64", "internal/bytealg.abigen_runtime_cmpstring", "sync/atomic.AddUint64", "slices.overlaps[fusee/api.Link]", "sync/atomic.SwapUint64"], unfollowed := true, recurses := true, apart := false }
def PointLongSaid : Prop := pointLongRow.holds Tryz.pinned (OpenSpec.ofChange pointLongSpec)

/-- ITS FALSE NEIGHBOUR: 'it returns false'. Refute it at one input. -/
def pointLongWrong : ChangeSpec := { name := "pointLong", fn := fun _ => fun
  | [d1, d2, d3] => { results := [.lit (.bool false)], args := [d1, d2, d3] }
  | _ => none }
def PointLongWrongFalsely : Prop := pointLongRow.holds Tryz.pinned (OpenSpec.ofChange pointLongWrong)

/-- 'fuseelaw17.PointSpace': WHATEVER THE INPUT: true; the input reads as it did. -/
def pointSpaceSpec : ChangeSpec := { name := "pointSpace", fn := fun _ => fun
  | [d1, d2] => { results := [.lit (.bool true)], args := [d1, d2] }
  | _ => none }
def pointSpaceRow : OpenClaim := { program := "ytenfleoejgjklaagreat", sum := "7ab20f08b83c52a14fffa187eb59884017ec42f523fb6d933fdffba8961bc268", func := "fusee/fuseelaw17.PointSpace", spec := "pointSpace", inPlace := ["sync/atomic.StoreUint64", "sync/atomic.AddInt64", "sync/atomic.LoadUint32", "(*internal/sync.Mutex).Lock", "internal/race.Disable", "sync/atomic.CompareAndSwapInt32", "internal/race.Enable", "internal/race.Acquire", "(*internal/sync.Mutex).lockSlow", "internal/sync.runtime_canSpin", "internal/sync.runtime_doSpin", "internal/sync.throw", "internal/sync.runtime_nanotime", "internal/sync.runtime_SemacquireMutex", "sync/atomic.AddInt32", "(*internal/sync.Mutex).Unlock", "internal/race.ReleaseMerge", "(*internal/sync.Mutex).unlockSlow", "internal/sync.fatal", "internal/sync.runtime_Semrelease", "sync/atomic.StoreUint32", "sync/atomic.LoadUint64", "sync/atomic.CompareAndSwapUint64", "internal/bytealg.abigen_runtime_cmpstring", "sync/atomic.AddUint64", "slices.overlaps[fusee/api.Link]", "sync/atomic.SwapUint64"], unfollowed := true, recurses := true, apart := false }
def PointSpaceSaid : Prop := pointSpaceRow.holds Tryz.pinned (OpenSpec.ofChange pointSpaceSpec)

/-- ITS FALSE NEIGHBOUR: 'it returns false'. Refute it at one input. -/
def pointSpaceWrong : ChangeSpec := { name := "pointSpace", fn := fun _ => fun
  | [d1, d2] => { results := [.lit (.bool false)], args := [d1, d2] }
  | _ => none }
def PointSpaceWrongFalsely : Prop := pointSpaceRow.holds Tryz.pinned (OpenSpec.ofChange pointSpaceWrong)

/-- 'fuseelaw17.PointEpochs': WHATEVER THE INPUT: true; the input reads as it did. -/
def pointEpochsSpec : ChangeSpec := { name := "pointEpochs", fn := fun _ => fun
  | [d1, d2, d3] => { results := [.lit (.bool true)], args := [d1, d2, d3] }
  | _ => none }
def pointEpochsRow : OpenClaim := { program := "ytenfleoejgjklaagreat", sum := "7ab20f08b83c52a14fffa187eb59884017ec42f523fb6d933fdffba8961bc268", func := "fusee/fuseelaw17.PointEpochs", spec := "pointEpochs", inPlace := ["sync/atomic.StoreUint64", "sync/atomic.AddInt64", "sync/atomic.LoadUint32", "(*internal/sync.Mutex).Lock", "internal/race.Disable", "sync/atomic.CompareAndSwapInt32", "internal/race.Enable", "internal/race.Acquire", "(*internal/sync.Mutex).lockSlow", "internal/sync.runtime_canSpin", "internal/sync.runtime_doSpin", "internal/sync.throw", "internal/sync.runtime_nanotime", "internal/sync.runtime_SemacquireMutex", "sync/atomic.AddInt32", "(*internal/sync.Mutex).Unlock", "internal/race.ReleaseMerge", "(*internal/sync.Mutex).unlockSlow", "internal/sync.fatal", "internal/sync.runtime_Semrelease", "sync/atomic.StoreUint32", "sync/atomic.LoadUint64", "sync/atomic.CompareAndSwapUint64", "internal/bytealg.abigen_runtime_cmpstring", "sync/atomic.AddUint64", "slices.overlaps[fusee/api.Link]", "sync/atomic.SwapUint64"], unfollowed := true, recurses := true, apart := false }
def PointEpochsSaid : Prop := pointEpochsRow.holds Tryz.pinned (OpenSpec.ofChange pointEpochsSpec)

/-- ITS FALSE NEIGHBOUR: 'it returns false'. Refute it at one input. -/
def pointEpochsWrong : ChangeSpec := { name := "pointEpochs", fn := fun _ => fun
  | [d1, d2, d3] => { results := [.lit (.bool false)], args := [d1, d2, d3] }
  | _ => none }
def PointEpochsWrongFalsely : Prop := pointEpochsRow.holds Tryz.pinned (OpenSpec.ofChange pointEpochsWrong)

/-- 'fuseelaw17.PointAlone': WHATEVER THE INPUT: true; the input reads as it did. -/
def pointAloneSpec : ChangeSpec := { name := "pointAlone", fn := fun _ => fun
  | [d1, d2] => { results := [.lit (.bool true)], args := [d1, d2] }
  | _ => none }
def pointAloneRow : OpenClaim := { program := "ytenfleoejgjklaagreat", sum := "7ab20f08b83c52a14fffa187eb59884017ec42f523fb6d933fdffba8961bc268", func := "fusee/fuseelaw17.PointAlone", spec := "pointAlone", inPlace := ["sync/atomic.StoreUint64", "sync/atomic.AddInt64", "sync/atomic.LoadUint32", "(*internal/sync.Mutex).Lock", "internal/race.Disable", "sync/atomic.CompareAndSwapInt32", "internal/race.Enable", "internal/race.Acquire", "(*internal/sync.Mutex).lockSlow", "internal/sync.runtime_canSpin", "internal/sync.runtime_doSpin", "internal/sync.throw", "internal/sync.runtime_nanotime", "internal/sync.runtime_SemacquireMutex", "sync/atomic.AddInt32", "(*internal/sync.Mutex).Unlock", "internal/race.ReleaseMerge", "(*internal/sync.Mutex).unlockSlow", "internal/sync.fatal", "internal/sync.runtime_Semrelease", "sync/atomic.StoreUint32", "sync/atomic.LoadUint64", "sync/atomic.CompareAndSwapUint64", "internal/bytealg.abigen_runtime_cmpstring", "sync/atomic.AddUint64", "slices.overlaps[fusee/api.Link]", "sync/atomic.SwapUint64", "slices.overlaps[fusee/api.Pair]"], unfollowed := true, recurses := true, loops := true, apart := false }
def PointAloneSaid : Prop := pointAloneRow.holds Tryz.pinned (OpenSpec.ofChange pointAloneSpec)

/-- ITS FALSE NEIGHBOUR: 'it returns false'. Refute it at one input. -/
def pointAloneWrong : ChangeSpec := { name := "pointAlone", fn := fun _ => fun
  | [d1, d2] => { results := [.lit (.bool false)], args := [d1, d2] }
  | _ => none }
def PointAloneWrongFalsely : Prop := pointAloneRow.holds Tryz.pinned (OpenSpec.ofChange pointAloneWrong)

/-- 'fuseelaw17.PointHeld': WHATEVER THE INPUT: true; the input reads as it did. -/
def pointHeldSpec : ChangeSpec := { name := "pointHeld", fn := fun _ => fun
  | [d1, d2] => { results := [.lit (.bool true)], args := [d1, d2] }
  | _ => none }
def pointHeldRow : OpenClaim := { program := "ytenfleoejgjklaagreat", sum := "7ab20f08b83c52a14fffa187eb59884017ec42f523fb6d933fdffba8961bc268", func := "fusee/fuseelaw17.PointHeld", spec := "pointHeld", inPlace := ["sync/atomic.StoreUint64", "sync/atomic.AddInt64", "sync/atomic.LoadUint32", "(*internal/sync.Mutex).Lock", "internal/race.Disable", "sync/atomic.CompareAndSwapInt32", "internal/race.Enable", "internal/race.Acquire", "(*internal/sync.Mutex).lockSlow", "internal/sync.runtime_canSpin", "internal/sync.runtime_doSpin", "internal/sync.throw", "internal/sync.runtime_nanotime", "internal/sync.runtime_SemacquireMutex", "sync/atomic.AddInt32", "(*internal/sync.Mutex).Unlock", "internal/race.ReleaseMerge", "(*internal/sync.Mutex).unlockSlow", "internal/sync.fatal", "internal/sync.runtime_Semrelease", "sync/atomic.StoreUint32", "sync/atomic.LoadUint64", "sync/atomic.CompareAndSwapUint64", "internal/bytealg.abigen_runtime_cmpstring", "sync/atomic.AddUint64", "slices.overlaps[fusee/api.Link]", "sync/atomic.SwapUint64"], unfollowed := true, recurses := true, apart := false }
def PointHeldSaid : Prop := pointHeldRow.holds Tryz.pinned (OpenSpec.ofChange pointHeldSpec)

/-- ITS FALSE NEIGHBOUR: 'it returns false'. Refute it at one input. -/
def pointHeldWrong : ChangeSpec := { name := "pointHeld", fn := fun _ => fun
  | [d1, d2] => { results := [.lit (.bool false)], args := [d1, d2] }
  | _ => none }
def PointHeldWrongFalsely : Prop := pointHeldRow.holds Tryz.pinned (OpenSpec.ofChange pointHeldWrong)

/- THE SECOND FORM. 'bulk': how many values and letters a reading holds, each counted each time it is reached (what is shared counts as often as it is met; a slice's spare places count too). A statement '..UptoSaid' is the law's where the arguments, and the package variables that the reading takes, are together of bulk at most 1048576: NARROWER than '..Said'. Prove '..Said' where nothing that the law and all that it calls make is longer than what came in: it says more and counts as full. Else prove '..UptoSaid'. A law counts once. -/
mutual
def uptoBulk {H : Type} : DataW H → Nat
  | .lit (.string bytes) => bytes.length + 1
  | .lit _ => 1
  | .nil => 1
  | .ptr d => uptoBulk d + 1
  | .slice elems spare => uptoBulkAll elems + uptoBulkAll spare + 1
  | .agg parts => uptoBulkAll parts + 1
  | .iface _ d => uptoBulk d + 1
  | .map entries => uptoBulkEntries entries + 1
  | .held _ => 1
def uptoBulkAll {H : Type} : List (DataW H) → Nat
  | [] => 0
  | d :: r => uptoBulk d + uptoBulkAll r
def uptoBulkEntries {H : Type} : List (Lit × DataW H) → Nat
  | [] => 0
  | x :: r => uptoBulkEntry x + uptoBulkEntries r
def uptoBulkEntry {H : Type} : Lit × DataW H → Nat
  | (.string bytes, d) => bytes.length + uptoBulk d + 1
  | (_, d) => uptoBulk d + 1
 end
def uptoSmall : (H : Type) → List (DataW H) → Bool := fun _ ds => decide (uptoBulkAll ds ≤ 1048576)
def OpenSpec.upto (s : _root_.Go.ChangeSpec) : _root_.Go.OpenSpec := { _root_.Go.OpenSpec.ofChange s with cond := some uptoSmall }

/-- 'fuseelaw18.TailOnce', WHERE WHAT IT READS IS OF BULK AT MOST 1048576: true; the input reads as it did. -/
def tailOnceUptoRow : OpenClaim := { program := "ytenfleoejgjklaagreat", sum := "7ab20f08b83c52a14fffa187eb59884017ec42f523fb6d933fdffba8961bc268", func := "fusee/fuseelaw18.TailOnce", spec := "tailOnce", inPlace := ["sync/atomic.StoreUint64", "sync/atomic.AddInt64", "sync/atomic.LoadUint32", "(*internal/sync.Mutex).Lock", "internal/race.Disable", "sync/atomic.CompareAndSwapInt32", "internal/race.Enable", "internal/race.Acquire", "(*internal/sync.Mutex).lockSlow", "internal/sync.runtime_canSpin", "internal/sync.runtime_doSpin", "internal/sync.throw", "internal/sync.runtime_nanotime", "internal/sync.runtime_SemacquireMutex", "sync/atomic.AddInt32", "(*internal/sync.Mutex).Unlock", "internal/race.ReleaseMerge", "(*internal/sync.Mutex).unlockSlow", "internal/sync.fatal", "internal/sync.runtime_Semrelease", "sync/atomic.StoreUint32", "sync/atomic.LoadUint64", "sync/atomic.CompareAndSwapUint64", "internal/bytealg.abigen_runtime_cmpstring", "sync/atomic.AddUint64", "slices.overlaps[fusee/api.Link]", "sync/atomic.SwapUint64"], unfollowed := true, recurses := true, apart := false, narrowed := true }
def TailOnceUptoSaid : Prop := tailOnceUptoRow.holds Tryz.pinned (OpenSpec.upto tailOnceSpec)

/-- 'fuseelaw18.TailEpochs', WHERE WHAT IT READS IS OF BULK AT MOST 1048576: true; the input reads as it did. -/
def tailEpochsUptoRow : OpenClaim := { program := "ytenfleoejgjklaagreat", sum := "7ab20f08b83c52a14fffa187eb59884017ec42f523fb6d933fdffba8961bc268", func := "fusee/fuseelaw18.TailEpochs", spec := "tailEpochs", inPlace := ["sync/atomic.StoreUint64", "sync/atomic.AddInt64", "sync/atomic.LoadUint32", "(*internal/sync.Mutex).Lock", "internal/race.Disable", "sync/atomic.CompareAndSwapInt32", "internal/race.Enable", "internal/race.Acquire", "(*internal/sync.Mutex).lockSlow", "internal/sync.runtime_canSpin", "internal/sync.runtime_doSpin", "internal/sync.throw", "internal/sync.runtime_nanotime", "internal/sync.runtime_SemacquireMutex", "sync/atomic.AddInt32", "(*internal/sync.Mutex).Unlock", "internal/race.ReleaseMerge", "(*internal/sync.Mutex).unlockSlow", "internal/sync.fatal", "internal/sync.runtime_Semrelease", "sync/atomic.StoreUint32", "sync/atomic.LoadUint64", "sync/atomic.CompareAndSwapUint64", "internal/bytealg.abigen_runtime_cmpstring", "sync/atomic.AddUint64", "slices.overlaps[fusee/api.Link]", "sync/atomic.SwapUint64"], unfollowed := true, recurses := true, apart := false, narrowed := true }
def TailEpochsUptoSaid : Prop := tailEpochsUptoRow.holds Tryz.pinned (OpenSpec.upto tailEpochsSpec)

/-- 'fuseelaw18.TailHeld', WHERE WHAT IT READS IS OF BULK AT MOST 1048576: true; the input reads as it did. -/
def tailHeldUptoRow : OpenClaim := { program := "ytenfleoejgjklaagreat", sum := "7ab20f08b83c52a14fffa187eb59884017ec42f523fb6d933fdffba8961bc268", func := "fusee/fuseelaw18.TailHeld", spec := "tailHeld", inPlace := ["sync/atomic.StoreUint64", "sync/atomic.AddInt64", "sync/atomic.LoadUint32", "(*internal/sync.Mutex).Lock", "internal/race.Disable", "sync/atomic.CompareAndSwapInt32", "internal/race.Enable", "internal/race.Acquire", "(*internal/sync.Mutex).lockSlow", "internal/sync.runtime_canSpin", "internal/sync.runtime_doSpin", "internal/sync.throw", "internal/sync.runtime_nanotime", "internal/sync.runtime_SemacquireMutex", "sync/atomic.AddInt32", "(*internal/sync.Mutex).Unlock", "internal/race.ReleaseMerge", "(*internal/sync.Mutex).unlockSlow", "internal/sync.fatal", "internal/sync.runtime_Semrelease", "sync/atomic.StoreUint32", "sync/atomic.LoadUint64", "sync/atomic.CompareAndSwapUint64", "internal/bytealg.abigen_runtime_cmpstring", "sync/atomic.AddUint64", "slices.overlaps[fusee/api.Link]", "sync/atomic.SwapUint64"], unfollowed := true, recurses := true, apart := false, narrowed := true }
def TailHeldUptoSaid : Prop := tailHeldUptoRow.holds Tryz.pinned (OpenSpec.upto tailHeldSpec)

/-- 'fuseelaw17.PointTwice', WHERE WHAT IT READS IS OF BULK AT MOST 1048576: true; the input reads as it did. -/
def pointTwiceUptoRow : OpenClaim := { program := "ytenfleoejgjklaagreat", sum := "7ab20f08b83c52a14fffa187eb59884017ec42f523fb6d933fdffba8961bc268", func := "fusee/fuseelaw17.PointTwice", spec := "pointTwice", inPlace := ["sync/atomic.StoreUint64", "sync/atomic.AddInt64", "sync/atomic.LoadUint32", "(*internal/sync.Mutex).Lock", "internal/race.Disable", "sync/atomic.CompareAndSwapInt32", "internal/race.Enable", "internal/race.Acquire", "(*internal/sync.Mutex).lockSlow", "internal/sync.runtime_canSpin", "internal/sync.runtime_doSpin", "internal/sync.throw", "internal/sync.runtime_nanotime", "internal/sync.runtime_SemacquireMutex", "sync/atomic.AddInt32", "(*internal/sync.Mutex).Unlock", "internal/race.ReleaseMerge", "(*internal/sync.Mutex).unlockSlow", "internal/sync.fatal", "internal/sync.runtime_Semrelease", "sync/atomic.StoreUint32", "sync/atomic.LoadUint64", "sync/atomic.CompareAndSwapUint64", "internal/bytealg.abigen_runtime_cmpstring", "sync/atomic.AddUint64", "slices.overlaps[fusee/api.Link]", "sync/atomic.SwapUint64"], unfollowed := true, recurses := true, apart := false, narrowed := true }
def PointTwiceUptoSaid : Prop := pointTwiceUptoRow.holds Tryz.pinned (OpenSpec.upto pointTwiceSpec)

/-- 'fuseelaw17.PointLong', WHERE WHAT IT READS IS OF BULK AT MOST 1048576: true; the input reads as it did. -/
def pointLongUptoRow : OpenClaim := { program := "ytenfleoejgjklaagreat", sum := "7ab20f08b83c52a14fffa187eb59884017ec42f523fb6d933fdffba8961bc268", func := "fusee/fuseelaw17.PointLong", spec := "pointLong", inPlace := ["sync/atomic.StoreUint64", "sync/atomic.AddInt64", "sync/atomic.LoadUint32", "(*internal/sync.Mutex).Lock", "internal/race.Disable", "sync/atomic.CompareAndSwapInt32", "internal/race.Enable", "internal/race.Acquire", "(*internal/sync.Mutex).lockSlow", "internal/sync.runtime_canSpin", "internal/sync.runtime_doSpin", "internal/sync.throw", "internal/sync.runtime_nanotime", "internal/sync.runtime_SemacquireMutex", "sync/atomic.AddInt32", "(*internal/sync.Mutex).Unlock", "internal/race.ReleaseMerge", "(*internal/sync.Mutex).unlockSlow", "internal/sync.fatal", "internal/sync.runtime_Semrelease", "sync/atomic.StoreUint32", "sync/atomic.LoadUint64", "sync/atomic.CompareAndSwapUint64", "internal/bytealg.abigen_runtime_cmpstring", "sync/atomic.AddUint64", "slices.overlaps[fusee/api.Link]", "sync/atomic.SwapUint64"], unfollowed := true, recurses := true, apart := false, narrowed := true }
def PointLongUptoSaid : Prop := pointLongUptoRow.holds Tryz.pinned (OpenSpec.upto pointLongSpec)

/-- 'fuseelaw17.PointSpace', WHERE WHAT IT READS IS OF BULK AT MOST 1048576: true; the input reads as it did. -/
def pointSpaceUptoRow : OpenClaim := { program := "ytenfleoejgjklaagreat", sum := "7ab20f08b83c52a14fffa187eb59884017ec42f523fb6d933fdffba8961bc268", func := "fusee/fuseelaw17.PointSpace", spec := "pointSpace", inPlace := ["sync/atomic.StoreUint64", "sync/atomic.AddInt64", "sync/atomic.LoadUint32", "(*internal/sync.Mutex).Lock", "internal/race.Disable", "sync/atomic.CompareAndSwapInt32", "internal/race.Enable", "internal/race.Acquire", "(*internal/sync.Mutex).lockSlow", "internal/sync.runtime_canSpin", "internal/sync.runtime_doSpin", "internal/sync.throw", "internal/sync.runtime_nanotime", "internal/sync.runtime_SemacquireMutex", "sync/atomic.AddInt32", "(*internal/sync.Mutex).Unlock", "internal/race.ReleaseMerge", "(*internal/sync.Mutex).unlockSlow", "internal/sync.fatal", "internal/sync.runtime_Semrelease", "sync/atomic.StoreUint32", "sync/atomic.LoadUint64", "sync/atomic.CompareAndSwapUint64", "internal/bytealg.abigen_runtime_cmpstring", "sync/atomic.AddUint64", "slices.overlaps[fusee/api.Link]", "sync/atomic.SwapUint64"], unfollowed := true, recurses := true, apart := false, narrowed := true }
def PointSpaceUptoSaid : Prop := pointSpaceUptoRow.holds Tryz.pinned (OpenSpec.upto pointSpaceSpec)

/-- 'fuseelaw17.PointEpochs', WHERE WHAT IT READS IS OF BULK AT MOST 1048576: true; the input reads as it did. -/
def pointEpochsUptoRow : OpenClaim := { program := "ytenfleoejgjklaagreat", sum := "7ab20f08b83c52a14fffa187eb59884017ec42f523fb6d933fdffba8961bc268", func := "fusee/fuseelaw17.PointEpochs", spec := "pointEpochs", inPlace := ["sync/atomic.StoreUint64", "sync/atomic.AddInt64", "sync/atomic.LoadUint32", "(*internal/sync.Mutex).Lock", "internal/race.Disable", "sync/atomic.CompareAndSwapInt32", "internal/race.Enable", "internal/race.Acquire", "(*internal/sync.Mutex).lockSlow", "internal/sync.runtime_canSpin", "internal/sync.runtime_doSpin", "internal/sync.throw", "internal/sync.runtime_nanotime", "internal/sync.runtime_SemacquireMutex", "sync/atomic.AddInt32", "(*internal/sync.Mutex).Unlock", "internal/race.ReleaseMerge", "(*internal/sync.Mutex).unlockSlow", "internal/sync.fatal", "internal/sync.runtime_Semrelease", "sync/atomic.StoreUint32", "sync/atomic.LoadUint64", "sync/atomic.CompareAndSwapUint64", "internal/bytealg.abigen_runtime_cmpstring", "sync/atomic.AddUint64", "slices.overlaps[fusee/api.Link]", "sync/atomic.SwapUint64"], unfollowed := true, recurses := true, apart := false, narrowed := true }
def PointEpochsUptoSaid : Prop := pointEpochsUptoRow.holds Tryz.pinned (OpenSpec.upto pointEpochsSpec)

/-- 'fuseelaw17.PointAlone', WHERE WHAT IT READS IS OF BULK AT MOST 1048576: true; the input reads as it did. -/
def pointAloneUptoRow : OpenClaim := { program := "ytenfleoejgjklaagreat", sum := "7ab20f08b83c52a14fffa187eb59884017ec42f523fb6d933fdffba8961bc268", func := "fusee/fuseelaw17.PointAlone", spec := "pointAlone", inPlace := ["sync/atomic.StoreUint64", "sync/atomic.AddInt64", "sync/atomic.LoadUint32", "(*internal/sync.Mutex).Lock", "internal/race.Disable", "sync/atomic.CompareAndSwapInt32", "internal/race.Enable", "internal/race.Acquire", "(*internal/sync.Mutex).lockSlow", "internal/sync.runtime_canSpin", "internal/sync.runtime_doSpin", "internal/sync.throw", "internal/sync.runtime_nanotime", "internal/sync.runtime_SemacquireMutex", "sync/atomic.AddInt32", "(*internal/sync.Mutex).Unlock", "internal/race.ReleaseMerge", "(*internal/sync.Mutex).unlockSlow", "internal/sync.fatal", "internal/sync.runtime_Semrelease", "sync/atomic.StoreUint32", "sync/atomic.LoadUint64", "sync/atomic.CompareAndSwapUint64", "internal/bytealg.abigen_runtime_cmpstring", "sync/atomic.AddUint64", "slices.overlaps[fusee/api.Link]", "sync/atomic.SwapUint64", "slices.overlaps[fusee/api.Pair]"], unfollowed := true, recurses := true, loops := true, apart := false, narrowed := true }
def PointAloneUptoSaid : Prop := pointAloneUptoRow.holds Tryz.pinned (OpenSpec.upto pointAloneSpec)

/-- 'fuseelaw17.PointHeld', WHERE WHAT IT READS IS OF BULK AT MOST 1048576: true; the input reads as it did. -/
def pointHeldUptoRow : OpenClaim := { program := "ytenfleoejgjklaagreat", sum := "7ab20f08b83c52a14fffa187eb59884017ec42f523fb6d933fdffba8961bc268", func := "fusee/fuseelaw17.PointHeld", spec := "pointHeld", inPlace := ["sync/atomic.StoreUint64", "sync/atomic.AddInt64", "sync/atomic.LoadUint32", "(*internal/sync.Mutex).Lock", "internal/race.Disable", "sync/atomic.CompareAndSwapInt32", "internal/race.Enable", "internal/race.Acquire", "(*internal/sync.Mutex).lockSlow", "internal/sync.runtime_canSpin", "internal/sync.runtime_doSpin", "internal/sync.throw", "internal/sync.runtime_nanotime", "internal/sync.runtime_SemacquireMutex", "sync/atomic.AddInt32", "(*internal/sync.Mutex).Unlock", "internal/race.ReleaseMerge", "(*internal/sync.Mutex).unlockSlow", "internal/sync.fatal", "internal/sync.runtime_Semrelease", "sync/atomic.StoreUint32", "sync/atomic.LoadUint64", "sync/atomic.CompareAndSwapUint64", "internal/bytealg.abigen_runtime_cmpstring", "sync/atomic.AddUint64", "slices.overlaps[fusee/api.Link]", "sync/atomic.SwapUint64"], unfollowed := true, recurses := true, apart := false, narrowed := true }
def PointHeldUptoSaid : Prop := pointHeldUptoRow.holds Tryz.pinned (OpenSpec.upto pointHeldSpec)

end Rows
end Go.Proofs.YtenfleoejgjklaaGreat
