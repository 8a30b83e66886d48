/-
  NARROWER THAN 'FOR EVERY INPUT', by the rows' own cells (each row's printed sentence says how): KeeperNone: loops · TailNone: loops · PointNone: loops · GroupNone: loops · ScanNone: loops.
  DERIVED. THE GIVEN ROWS OF THIS SEAT. 6 by the template 'for every input the law returns true; each argument reads behind the call as it read before'; 0 by the template 'total and deterministic' (their statements: YtnlpcbdmllpddaaGreatTotals.lean).
  GIVEN WITH THE SEED: the statements are not yours to turn. If you find one false, say at which input.
  Laid BY PROGRAM, IN A SANDBOX (cutbox-rows.mjs): the forced cells as the released guide's own fill.sh prints them over the translation 691d6782b62a9828… (all of the seat's roots in one cut). By AI agents, Wed Nov 11 2026. No macro, syntax, notation, axiom, sorry.
-/
import Derived.Test.YtnlpcbdmllpddaaGreatChecked
import GoSem.Claim
import GoSem.ClaimJoined
import GoSem.ClaimMapViews
import Derived.JoinedTies
import Derived.KernelRfl
namespace Go.Proofs.YtnlpcbdmllpddaaGreat
/- THE CELL 'sum', in the pinned program and in every row, IS THE sha256 OF THE DUMP (.gsa) THAT YtnlpcbdmllpddaaGreatProg.lean LOADS. Nothing in Lean hashes anything: it is a label: what it is worth is what the hold of that sum in a sandbox is worth. -/
noncomputable def Tryz.pinned : Pinned := { name := "ytnlpcbdmllpddaagreat", sum := "691d6782b62a9828792d9e1e194f3138f83619f362061322e17161a60e94e151", checked := Tryz.checked }
namespace Rows
def none {H : Type} : Left H := { results := [], args := [] }

/-- 'fuseelaw21.KeeperNone': WHATEVER THE INPUT: true; the input reads as it did. -/
def keeperNoneSpec : ChangeSpec := { name := "keeperNone", fn := fun _ => fun
  | [d1, d2, d3, d4] => { results := [.lit (.bool true)], args := [d1, d2, d3, d4] }
  | _ => none }
def keeperNoneRow : OpenClaim := { program := "ytnlpcbdmllpddaagreat", sum := "691d6782b62a9828792d9e1e194f3138f83619f362061322e17161a60e94e151", func := "fusee/fuseelaw21.KeeperNone", spec := "keeperNone", inPlace := ["sync/atomic.StoreUint64", "sync/atomic.AddInt64", "sync/atomic.LoadUint32", "(*internal/sync.Mutex).Lock", "internal/race.Disable", "sync/atomic.CompareAndSwapInt32", "internal/race.Enable", "internal/race.Acquire", "(*internal/sync.Mutex).lockSlow", "internal/sync.runtime_canSpin", "internal/sync.runtime_doSpin", "internal/sync.throw", "internal/sync.runtime_nanotime", "internal/sync.runtime_SemacquireMutex", "sync/atomic.AddInt32", "(*internal/sync.Mutex).Unlock", "internal/race.ReleaseMerge", "(*internal/sync.Mutex).unlockSlow", "internal/sync.fatal", "internal/sync.runtime_Semrelease", "sync/atomic.StoreUint32", "sync/atomic.LoadUint64", "sync/atomic.CompareAndSwapUint64", "sync/atomic.AddUint64"], unfollowed := true, recurses := true, loops := true, apart := false }
def KeeperNoneSaid : Prop := keeperNoneRow.holds Tryz.pinned (OpenSpec.ofChange keeperNoneSpec)

/-- ITS FALSE NEIGHBOUR: 'it returns false'. Refute it at one input. -/
def keeperNoneWrong : ChangeSpec := { name := "keeperNone", fn := fun _ => fun
  | [d1, d2, d3, d4] => { results := [.lit (.bool false)], args := [d1, d2, d3, d4] }
  | _ => none }
def KeeperNoneWrongFalsely : Prop := keeperNoneRow.holds Tryz.pinned (OpenSpec.ofChange keeperNoneWrong)

/-- 'fuseelaw16.ArenaNone': WHATEVER THE INPUT: true; the input reads as it did. -/
def arenaNoneSpec : ChangeSpec := { name := "arenaNone", fn := fun _ => fun
  | [d1, d2] => { results := [.lit (.bool true)], args := [d1, d2] }
  | _ => none }
def arenaNoneRow : OpenClaim := { program := "ytnlpcbdmllpddaagreat", sum := "691d6782b62a9828792d9e1e194f3138f83619f362061322e17161a60e94e151", func := "fusee/fuseelaw16.ArenaNone", spec := "arenaNone", inPlace := ["sync/atomic.LoadUint64", "internal/bytealg.abigen_runtime_cmpstring", "sync/atomic.AddUint64", "sync/atomic.AddInt64", "slices.overlaps[fusee/api.Link]", "sync/atomic.StoreUint64", "sync/atomic.LoadUint32", "(*internal/sync.Mutex).Lock", "internal/race.Disable", "sync/atomic.CompareAndSwapInt32", "internal/race.Enable", "internal/race.Acquire", "(*internal/sync.Mutex).lockSlow", "internal/sync.runtime_canSpin", "internal/sync.runtime_doSpin", "internal/sync.throw", "internal/sync.runtime_nanotime", "internal/sync.runtime_SemacquireMutex", "sync/atomic.AddInt32", "(*internal/sync.Mutex).Unlock", "internal/race.ReleaseMerge", "(*internal/sync.Mutex).unlockSlow", "internal/sync.fatal", "internal/sync.runtime_Semrelease", "sync/atomic.StoreUint32"], unfollowed := true, recurses := true, apart := false }
def ArenaNoneSaid : Prop := arenaNoneRow.holds Tryz.pinned (OpenSpec.ofChange arenaNoneSpec)

/-- ITS FALSE NEIGHBOUR: 'it returns false'. Refute it at one input. -/
def arenaNoneWrong : ChangeSpec := { name := "arenaNone", fn := fun _ => fun
  | [d1, d2] => { results := [.lit (.bool false)], args := [d1, d2] }
  | _ => none }
def ArenaNoneWrongFalsely : Prop := arenaNoneRow.holds Tryz.pinned (OpenSpec.ofChange arenaNoneWrong)

/-- 'fuseelaw18.TailNone': WHATEVER THE INPUT: true; the input reads as it did. -/
def tailNoneSpec : ChangeSpec := { name := "tailNone", fn := fun _ => fun
  | [d1, d2] => { results := [.lit (.bool true)], args := [d1, d2] }
  | _ => none }
def tailNoneRow : OpenClaim := { program := "ytnlpcbdmllpddaagreat", sum := "691d6782b62a9828792d9e1e194f3138f83619f362061322e17161a60e94e151", func := "fusee/fuseelaw18.TailNone", spec := "tailNone", inPlace := ["sync/atomic.StoreUint64", "sync/atomic.AddInt64", "sync/atomic.LoadUint32", "(*internal/sync.Mutex).Lock", "internal/race.Disable", "sync/atomic.CompareAndSwapInt32", "internal/race.Enable", "internal/race.Acquire", "(*internal/sync.Mutex).lockSlow", "internal/sync.runtime_canSpin", "internal/sync.runtime_doSpin", "internal/sync.throw", "internal/sync.runtime_nanotime", "internal/sync.runtime_SemacquireMutex", "sync/atomic.AddInt32", "(*internal/sync.Mutex).Unlock", "internal/race.ReleaseMerge", "(*internal/sync.Mutex).unlockSlow", "internal/sync.fatal", "internal/sync.runtime_Semrelease", "sync/atomic.StoreUint32", "sync/atomic.LoadUint64", "sync/atomic.CompareAndSwapUint64", "internal/bytealg.abigen_runtime_cmpstring", "sync/atomic.AddUint64", "slices.overlaps[fusee/api.Link]", "sync/atomic.SwapUint64"], unfollowed := true, recurses := true, loops := true, apart := false }
def TailNoneSaid : Prop := tailNoneRow.holds Tryz.pinned (OpenSpec.ofChange tailNoneSpec)

/-- ITS FALSE NEIGHBOUR: 'it returns false'. Refute it at one input. -/
def tailNoneWrong : ChangeSpec := { name := "tailNone", fn := fun _ => fun
  | [d1, d2] => { results := [.lit (.bool false)], args := [d1, d2] }
  | _ => none }
def TailNoneWrongFalsely : Prop := tailNoneRow.holds Tryz.pinned (OpenSpec.ofChange tailNoneWrong)

/-- 'fuseelaw17.PointNone': WHATEVER THE INPUT: true; the input reads as it did. -/
def pointNoneSpec : ChangeSpec := { name := "pointNone", fn := fun _ => fun
  | [d1, d2] => { results := [.lit (.bool true)], args := [d1, d2] }
  | _ => none }
def pointNoneRow : OpenClaim := { program := "ytnlpcbdmllpddaagreat", sum := "691d6782b62a9828792d9e1e194f3138f83619f362061322e17161a60e94e151", func := "fusee/fuseelaw17.PointNone", spec := "pointNone", inPlace := ["sync/atomic.StoreUint64", "sync/atomic.AddInt64", "sync/atomic.LoadUint32", "(*internal/sync.Mutex).Lock", "internal/race.Disable", "sync/atomic.CompareAndSwapInt32", "internal/race.Enable", "internal/race.Acquire", "(*internal/sync.Mutex).lockSlow", "internal/sync.runtime_canSpin", "internal/sync.runtime_doSpin", "internal/sync.throw", "internal/sync.runtime_nanotime", "internal/sync.runtime_SemacquireMutex", "sync/atomic.AddInt32", "(*internal/sync.Mutex).Unlock", "internal/race.ReleaseMerge", "(*internal/sync.Mutex).unlockSlow", "internal/sync.fatal", "internal/sync.runtime_Semrelease", "sync/atomic.StoreUint32", "sync/atomic.LoadUint64", "sync/atomic.CompareAndSwapUint64", "internal/bytealg.abigen_runtime_cmpstring", "sync/atomic.AddUint64", "slices.overlaps[fusee/api.Link]", "sync/atomic.SwapUint64"], unfollowed := true, recurses := true, loops := true, apart := false }
def PointNoneSaid : Prop := pointNoneRow.holds Tryz.pinned (OpenSpec.ofChange pointNoneSpec)

/-- ITS FALSE NEIGHBOUR: 'it returns false'. Refute it at one input. -/
def pointNoneWrong : ChangeSpec := { name := "pointNone", fn := fun _ => fun
  | [d1, d2] => { results := [.lit (.bool false)], args := [d1, d2] }
  | _ => none }
def PointNoneWrongFalsely : Prop := pointNoneRow.holds Tryz.pinned (OpenSpec.ofChange pointNoneWrong)

/-- 'fuseelaw20.GroupNone': WHATEVER THE INPUT: true; the input reads as it did. -/
def groupNoneSpec : ChangeSpec := { name := "groupNone", fn := fun _ => fun
  | [d1, d2] => { results := [.lit (.bool true)], args := [d1, d2] }
  | _ => none }
def groupNoneRow : OpenClaim := { program := "ytnlpcbdmllpddaagreat", sum := "691d6782b62a9828792d9e1e194f3138f83619f362061322e17161a60e94e151", func := "fusee/fuseelaw20.GroupNone", spec := "groupNone", inPlace := ["sync/atomic.StoreUint64", "sync/atomic.AddInt64", "sync/atomic.LoadUint32", "(*internal/sync.Mutex).Lock", "internal/race.Disable", "sync/atomic.CompareAndSwapInt32", "internal/race.Enable", "internal/race.Acquire", "(*internal/sync.Mutex).lockSlow", "internal/sync.runtime_canSpin", "internal/sync.runtime_doSpin", "internal/sync.throw", "internal/sync.runtime_nanotime", "internal/sync.runtime_SemacquireMutex", "sync/atomic.AddInt32", "(*internal/sync.Mutex).Unlock", "internal/race.ReleaseMerge", "(*internal/sync.Mutex).unlockSlow", "internal/sync.fatal", "internal/sync.runtime_Semrelease", "sync/atomic.StoreUint32", "sync/atomic.LoadUint64", "sync/atomic.CompareAndSwapUint64", "internal/bytealg.abigen_runtime_cmpstring", "sync/atomic.AddUint64", "slices.overlaps[fusee/api.Link]", "sync/atomic.SwapUint64"], unfollowed := true, recurses := true, loops := true, apart := false }
def GroupNoneSaid : Prop := groupNoneRow.holds Tryz.pinned (OpenSpec.ofChange groupNoneSpec)

/-- ITS FALSE NEIGHBOUR: 'it returns false'. Refute it at one input. -/
def groupNoneWrong : ChangeSpec := { name := "groupNone", fn := fun _ => fun
  | [d1, d2] => { results := [.lit (.bool false)], args := [d1, d2] }
  | _ => none }
def GroupNoneWrongFalsely : Prop := groupNoneRow.holds Tryz.pinned (OpenSpec.ofChange groupNoneWrong)

/-- 'fuseelaw19.ScanNone': WHATEVER THE INPUT: true; the input reads as it did. -/
def scanNoneSpec : ChangeSpec := { name := "scanNone", fn := fun _ => fun
  | [d1, d2] => { results := [.lit (.bool true)], args := [d1, d2] }
  | _ => none }
def scanNoneRow : OpenClaim := { program := "ytnlpcbdmllpddaagreat", sum := "691d6782b62a9828792d9e1e194f3138f83619f362061322e17161a60e94e151", func := "fusee/fuseelaw19.ScanNone", spec := "scanNone", inPlace := ["sync/atomic.StoreUint64", "sync/atomic.AddInt64", "sync/atomic.LoadUint32", "(*internal/sync.Mutex).Lock", "internal/race.Disable", "sync/atomic.CompareAndSwapInt32", "internal/race.Enable", "internal/race.Acquire", "(*internal/sync.Mutex).lockSlow", "internal/sync.runtime_canSpin", "internal/sync.runtime_doSpin", "internal/sync.throw", "internal/sync.runtime_nanotime", "internal/sync.runtime_SemacquireMutex", "sync/atomic.AddInt32", "(*internal/sync.Mutex).Unlock", "internal/race.ReleaseMerge", "(*internal/sync.Mutex).unlockSlow", "internal/sync.fatal", "internal/sync.runtime_Semrelease", "sync/atomic.StoreUint32", "sync/atomic.LoadUint64", "sync/atomic.CompareAndSwapUint64", "internal/bytealg.abigen_runtime_cmpstring", "sync/atomic.AddUint64", "slices.overlaps[fusee/api.Link]", "sync/atomic.SwapUint64"], unfollowed := true, recurses := true, loops := true, apart := false }
def ScanNoneSaid : Prop := scanNoneRow.holds Tryz.pinned (OpenSpec.ofChange scanNoneSpec)

/-- ITS FALSE NEIGHBOUR: 'it returns false'. Refute it at one input. -/
def scanNoneWrong : ChangeSpec := { name := "scanNone", fn := fun _ => fun
  | [d1, d2] => { results := [.lit (.bool false)], args := [d1, d2] }
  | _ => none }
def ScanNoneWrongFalsely : Prop := scanNoneRow.holds Tryz.pinned (OpenSpec.ofChange scanNoneWrong)

/- THE SECOND FORM. 'bulk': how many values and letters a reading holds, each counted each time it is reached (what is shared counts as often as it is met; a slice's spare places count too). A statement '..UptoSaid' is the law's where the arguments, and the package variables that the reading takes, are together of bulk at most 1048576: NARROWER than '..Said'. Prove '..Said' where nothing that the law and all that it calls make is longer than what came in: it says more and counts as full. Else prove '..UptoSaid'. A law counts once. -/
mutual
def uptoBulk {H : Type} : DataW H → Nat
  | .lit (.string bytes) => bytes.length + 1
  | .lit _ => 1
  | .nil => 1
  | .ptr d => uptoBulk d + 1
  | .slice elems spare => uptoBulkAll elems + uptoBulkAll spare + 1
  | .agg parts => uptoBulkAll parts + 1
  | .iface _ d => uptoBulk d + 1
  | .map entries => uptoBulkEntries entries + 1
  | .held _ => 1
def uptoBulkAll {H : Type} : List (DataW H) → Nat
  | [] => 0
  | d :: r => uptoBulk d + uptoBulkAll r
def uptoBulkEntries {H : Type} : List (Lit × DataW H) → Nat
  | [] => 0
  | x :: r => uptoBulkEntry x + uptoBulkEntries r
def uptoBulkEntry {H : Type} : Lit × DataW H → Nat
  | (.string bytes, d) => bytes.length + uptoBulk d + 1
  | (_, d) => uptoBulk d + 1
 end
def uptoSmall : (H : Type) → List (DataW H) → Bool := fun _ ds => decide (uptoBulkAll ds ≤ 1048576)
def OpenSpec.upto (s : _root_.Go.ChangeSpec) : _root_.Go.OpenSpec := { _root_.Go.OpenSpec.ofChange s with cond := some uptoSmall }

/-- 'fuseelaw21.KeeperNone', WHERE WHAT IT READS IS OF BULK AT MOST 1048576: true; the input reads as it did. -/
def keeperNoneUptoRow : OpenClaim := { program := "ytnlpcbdmllpddaagreat", sum := "691d6782b62a9828792d9e1e194f3138f83619f362061322e17161a60e94e151", func := "fusee/fuseelaw21.KeeperNone", spec := "keeperNone", inPlace := ["sync/atomic.StoreUint64", "sync/atomic.AddInt64", "sync/atomic.LoadUint32", "(*internal/sync.Mutex).Lock", "internal/race.Disable", "sync/atomic.CompareAndSwapInt32", "internal/race.Enable", "internal/race.Acquire", "(*internal/sync.Mutex).lockSlow", "internal/sync.runtime_canSpin", "internal/sync.runtime_doSpin", "internal/sync.throw", "internal/sync.runtime_nanotime", "internal/sync.runtime_SemacquireMutex", "sync/atomic.AddInt32", "(*internal/sync.Mutex).Unlock", "internal/race.ReleaseMerge", "(*internal/sync.Mutex).unlockSlow", "internal/sync.fatal", "internal/sync.runtime_Semrelease", "sync/atomic.StoreUint32", "sync/atomic.LoadUint64", "sync/atomic.CompareAndSwapUint64", "sync/atomic.AddUint64"], unfollowed := true, recurses := true, loops := true, apart := false, narrowed := true }
def KeeperNoneUptoSaid : Prop := keeperNoneUptoRow.holds Tryz.pinned (OpenSpec.upto keeperNoneSpec)

/-- 'fuseelaw16.ArenaNone', WHERE WHAT IT READS IS OF BULK AT MOST 1048576: true; the input reads as it did. -/
def arenaNoneUptoRow : OpenClaim := { program := "ytnlpcbdmllpddaagreat", sum := "691d6782b62a9828792d9e1e194f3138f83619f362061322e17161a60e94e151", func := "fusee/fuseelaw16.ArenaNone", spec := "arenaNone", inPlace := ["sync/atomic.LoadUint64", "internal/bytealg.abigen_runtime_cmpstring", "sync/atomic.AddUint64", "sync/atomic.AddInt64", "slices.overlaps[fusee/api.Link]", "sync/atomic.StoreUint64", "sync/atomic.LoadUint32", "(*internal/sync.Mutex).Lock", "internal/race.Disable", "sync/atomic.CompareAndSwapInt32", "internal/race.Enable", "internal/race.Acquire", "(*internal/sync.Mutex).lockSlow", "internal/sync.runtime_canSpin", "internal/sync.runtime_doSpin", "internal/sync.throw", "internal/sync.runtime_nanotime", "internal/sync.runtime_SemacquireMutex", "sync/atomic.AddInt32", "(*internal/sync.Mutex).Unlock", "internal/race.ReleaseMerge", "(*internal/sync.Mutex).unlockSlow", "internal/sync.fatal", "internal/sync.runtime_Semrelease", "sync/atomic.StoreUint32"], unfollowed := true, recurses := true, apart := false, narrowed := true }
def ArenaNoneUptoSaid : Prop := arenaNoneUptoRow.holds Tryz.pinned (OpenSpec.upto arenaNoneSpec)

/-- 'fuseelaw18.TailNone', WHERE WHAT IT READS IS OF BULK AT MOST 1048576: true; the input reads as it did. -/
def tailNoneUptoRow : OpenClaim := { program := "ytnlpcbdmllpddaagreat", sum := "691d6782b62a9828792d9e1e194f3138f83619f362061322e17161a60e94e151", func := "fusee/fuseelaw18.TailNone", spec := "tailNone", inPlace := ["sync/atomic.StoreUint64", "sync/atomic.AddInt64", "sync/atomic.LoadUint32", "(*internal/sync.Mutex).Lock", "internal/race.Disable", "sync/atomic.CompareAndSwapInt32", "internal/race.Enable", "internal/race.Acquire", "(*internal/sync.Mutex).lockSlow", "internal/sync.runtime_canSpin", "internal/sync.runtime_doSpin", "internal/sync.throw", "internal/sync.runtime_nanotime", "internal/sync.runtime_SemacquireMutex", "sync/atomic.AddInt32", "(*internal/sync.Mutex).Unlock", "internal/race.ReleaseMerge", "(*internal/sync.Mutex).unlockSlow", "internal/sync.fatal", "internal/sync.runtime_Semrelease", "sync/atomic.StoreUint32", "sync/atomic.LoadUint64", "sync/atomic.CompareAndSwapUint64", "internal/bytealg.abigen_runtime_cmpstring", "sync/atomic.AddUint64", "slices.overlaps[fusee/api.Link]", "sync/atomic.SwapUint64"], unfollowed := true, recurses := true, loops := true, apart := false, narrowed := true }
def TailNoneUptoSaid : Prop := tailNoneUptoRow.holds Tryz.pinned (OpenSpec.upto tailNoneSpec)

/-- 'fuseelaw17.PointNone', WHERE WHAT IT READS IS OF BULK AT MOST 1048576: true; the input reads as it did. -/
def pointNoneUptoRow : OpenClaim := { program := "ytnlpcbdmllpddaagreat", sum := "691d6782b62a9828792d9e1e194f3138f83619f362061322e17161a60e94e151", func := "fusee/fuseelaw17.PointNone", spec := "pointNone", inPlace := ["sync/atomic.StoreUint64", "sync/atomic.AddInt64", "sync/atomic.LoadUint32", "(*internal/sync.Mutex).Lock", "internal/race.Disable", "sync/atomic.CompareAndSwapInt32", "internal/race.Enable", "internal/race.Acquire", "(*internal/sync.Mutex).lockSlow", "internal/sync.runtime_canSpin", "internal/sync.runtime_doSpin", "internal/sync.throw", "internal/sync.runtime_nanotime", "internal/sync.runtime_SemacquireMutex", "sync/atomic.AddInt32", "(*internal/sync.Mutex).Unlock", "internal/race.ReleaseMerge", "(*internal/sync.Mutex).unlockSlow", "internal/sync.fatal", "internal/sync.runtime_Semrelease", "sync/atomic.StoreUint32", "sync/atomic.LoadUint64", "sync/atomic.CompareAndSwapUint64", "internal/bytealg.abigen_runtime_cmpstring", "sync/atomic.AddUint64", "slices.overlaps[fusee/api.Link]", "sync/atomic.SwapUint64"], unfollowed := true, recurses := true, loops := true, apart := false, narrowed := true }
def PointNoneUptoSaid : Prop := pointNoneUptoRow.holds Tryz.pinned (OpenSpec.upto pointNoneSpec)

/-- 'fuseelaw20.GroupNone', WHERE WHAT IT READS IS OF BULK AT MOST 1048576: true; the input reads as it did. -/
def groupNoneUptoRow : OpenClaim := { program := "ytnlpcbdmllpddaagreat", sum := "691d6782b62a9828792d9e1e194f3138f83619f362061322e17161a60e94e151", func := "fusee/fuseelaw20.GroupNone", spec := "groupNone", inPlace := ["sync/atomic.StoreUint64", "sync/atomic.AddInt64", "sync/atomic.LoadUint32", "(*internal/sync.Mutex).Lock", "internal/race.Disable", "sync/atomic.CompareAndSwapInt32", "internal/race.Enable", "internal/race.Acquire", "(*internal/sync.Mutex).lockSlow", "internal/sync.runtime_canSpin", "internal/sync.runtime_doSpin", "internal/sync.throw", "internal/sync.runtime_nanotime", "internal/sync.runtime_SemacquireMutex", "sync/atomic.AddInt32", "(*internal/sync.Mutex).Unlock", "internal/race.ReleaseMerge", "(*internal/sync.Mutex).unlockSlow", "internal/sync.fatal", "internal/sync.runtime_Semrelease", "sync/atomic.StoreUint32", "sync/atomic.LoadUint64", "sync/atomic.CompareAndSwapUint64", "internal/bytealg.abigen_runtime_cmpstring", "sync/atomic.AddUint64", "slices.overlaps[fusee/api.Link]", "sync/atomic.SwapUint64"], unfollowed := true, recurses := true, loops := true, apart := false, narrowed := true }
def GroupNoneUptoSaid : Prop := groupNoneUptoRow.holds Tryz.pinned (OpenSpec.upto groupNoneSpec)

/-- 'fuseelaw19.ScanNone', WHERE WHAT IT READS IS OF BULK AT MOST 1048576: true; the input reads as it did. -/
def scanNoneUptoRow : OpenClaim := { program := "ytnlpcbdmllpddaagreat", sum := "691d6782b62a9828792d9e1e194f3138f83619f362061322e17161a60e94e151", func := "fusee/fuseelaw19.ScanNone", spec := "scanNone", inPlace := ["sync/atomic.StoreUint64", "sync/atomic.AddInt64", "sync/atomic.LoadUint32", "(*internal/sync.Mutex).Lock", "internal/race.Disable", "sync/atomic.CompareAndSwapInt32", "internal/race.Enable", "internal/race.Acquire", "(*internal/sync.Mutex).lockSlow", "internal/sync.runtime_canSpin", "internal/sync.runtime_doSpin", "internal/sync.throw", "internal/sync.runtime_nanotime", "internal/sync.runtime_SemacquireMutex", "sync/atomic.AddInt32", "(*internal/sync.Mutex).Unlock", "internal/race.ReleaseMerge", "(*internal/sync.Mutex).unlockSlow", "internal/sync.fatal", "internal/sync.runtime_Semrelease", "sync/atomic.StoreUint32", "sync/atomic.LoadUint64", "sync/atomic.CompareAndSwapUint64", "internal/bytealg.abigen_runtime_cmpstring", "sync/atomic.AddUint64", "slices.overlaps[fusee/api.Link]", "sync/atomic.SwapUint64"], unfollowed := true, recurses := true, loops := true, apart := false, narrowed := true }
def ScanNoneUptoSaid : Prop := scanNoneUptoRow.holds Tryz.pinned (OpenSpec.upto scanNoneSpec)

end Rows
end Go.Proofs.YtnlpcbdmllpddaaGreat
