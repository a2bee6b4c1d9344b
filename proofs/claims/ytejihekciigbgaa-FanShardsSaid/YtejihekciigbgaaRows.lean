/-
  NARROWER THAN 'FOR EVERY INPUT', by the rows' own cells (each row's printed sentence says how): FanOrder: calm · FanWorkers: calm · FanFails: calm · FanEach: calm · FanBeats: calm.
  DERIVED. THE GIVEN ROWS OF THIS SEAT. 6 by the template 'for every input the law returns true; each argument reads behind the call as it read before'; 0 by the template 'total and deterministic' (their statements: YtejihekciigbgaaTotals.lean).
  GIVEN WITH THE SEED: the statements are not yours to turn. If you find one false, say at which input.
  Laid BY PROGRAM, IN A SANDBOX (cutbox-rows.mjs): the forced cells as the released guide's own fill.sh prints them over the translation cde331f104ea12b3… (all of the seat's roots in one cut). By AI agents, Wed Nov 11 2026. No macro, syntax, notation, axiom, sorry.
-/
import Derived.Test.YtejihekciigbgaaChecked
import GoSem.Claim
import GoSem.ClaimJoined
import GoSem.ClaimMapViews
import Derived.JoinedTies
import Derived.KernelRfl
namespace Go.Proofs.Ytejihekciigbgaa
/- THE CELL 'sum', in the pinned program and in every row, IS THE sha256 OF THE DUMP (.gsa) THAT YtejihekciigbgaaProg.lean LOADS. Nothing in Lean hashes anything: it is a label: what it is worth is what the hold of that sum in a sandbox is worth. -/
noncomputable def Try.pinned : Pinned := { name := "ytejihekciigbgaa", sum := "cde331f104ea12b37347c2de7a7649a6b38388136e868ad6d0ca96912ef91221", checked := Try.checked }
namespace Rows
def none {H : Type} : Left H := { results := [], args := [] }

/-- 'proctorlaw02.FanShards': WHATEVER THE INPUT: true; the input reads as it did. -/
def fanShardsSpec : ChangeSpec := { name := "fanShards", fn := fun _ => fun
  | [d1, d2] => { results := [.lit (.bool true)], args := [d1, d2] }
  | _ => none }
def fanShardsRow : OpenClaim := { program := "ytejihekciigbgaa", sum := "cde331f104ea12b37347c2de7a7649a6b38388136e868ad6d0ca96912ef91221", func := "proctor/proctorlaw02.FanShards", spec := "fanShards", apart := false }
def FanShardsSaid : Prop := fanShardsRow.holds Try.pinned (OpenSpec.ofChange fanShardsSpec)

/-- ITS FALSE NEIGHBOUR: 'it returns false'. Refute it at one input. -/
def fanShardsWrong : ChangeSpec := { name := "fanShards", fn := fun _ => fun
  | [d1, d2] => { results := [.lit (.bool false)], args := [d1, d2] }
  | _ => none }
def FanShardsWrongFalsely : Prop := fanShardsRow.holds Try.pinned (OpenSpec.ofChange fanShardsWrong)

/-- 'proctorlaw02.FanOrder': WHATEVER THE INPUT: true; the input reads as it did. -/
def fanOrderSpec : ChangeSpec := { name := "fanOrder", fn := fun _ => fun
  | [d1, d2] => { results := [.lit (.bool true)], args := [d1, d2] }
  | _ => none }
def fanOrderRow : OpenClaim := { program := "ytejihekciigbgaa", sum := "cde331f104ea12b37347c2de7a7649a6b38388136e868ad6d0ca96912ef91221", func := "proctor/proctorlaw02.FanOrder", spec := "fanOrder", inPlace := ["sync/atomic.LoadUint32", "(*internal/sync.Mutex).Lock", "internal/race.Disable", "sync/atomic.CompareAndSwapInt32", "internal/race.Enable", "internal/race.Acquire", "(*internal/sync.Mutex).lockSlow", "internal/sync.runtime_canSpin", "internal/sync.runtime_doSpin", "internal/sync.throw", "internal/sync.runtime_nanotime", "internal/sync.runtime_SemacquireMutex", "sync/atomic.AddInt32", "(*internal/sync.Mutex).Unlock", "internal/race.ReleaseMerge", "(*internal/sync.Mutex).unlockSlow", "internal/sync.fatal", "internal/sync.runtime_Semrelease", "sync/atomic.StoreUint32", "(*sync.WaitGroup).Go", "(*sync.WaitGroup).Add", "internal/synctest.IsInBubble", "internal/synctest.Associate[sync.WaitGroup]", "sync.fatal", "sync/atomic.OrUint64", "sync/atomic.AddUint64", "internal/race.Read", "sync/atomic.LoadUint64", "sync/atomic.StoreUint64", "internal/synctest.Disassociate[sync.WaitGroup]", "sync.runtime_Semrelease", "(*sync.WaitGroup).Go$1", "(*sync.WaitGroup).Go$1$1", "(*sync.WaitGroup).Done", "(*sync.WaitGroup).Wait", "internal/synctest.IsAssociated[sync.WaitGroup]", "sync/atomic.CompareAndSwapUint64", "internal/race.Write", "sync.runtime_SemacquireWaitGroup"], unfollowed := true, recurses := true, leaving := true, apart := false, calm := true, outside := [.timePasses] }
def FanOrderSaid : Prop := fanOrderRow.holds Try.pinned (OpenSpec.ofChange fanOrderSpec)

/-- ITS FALSE NEIGHBOUR: 'it returns false'. Refute it at one input. -/
def fanOrderWrong : ChangeSpec := { name := "fanOrder", fn := fun _ => fun
  | [d1, d2] => { results := [.lit (.bool false)], args := [d1, d2] }
  | _ => none }
def FanOrderWrongFalsely : Prop := fanOrderRow.holds Try.pinned (OpenSpec.ofChange fanOrderWrong)

/-- 'proctorlaw02.FanWorkers': WHATEVER THE INPUT: true; the input reads as it did. -/
def fanWorkersSpec : ChangeSpec := { name := "fanWorkers", fn := fun _ => fun
  | [d1, d2] => { results := [.lit (.bool true)], args := [d1, d2] }
  | _ => none }
def fanWorkersRow : OpenClaim := { program := "ytejihekciigbgaa", sum := "cde331f104ea12b37347c2de7a7649a6b38388136e868ad6d0ca96912ef91221", func := "proctor/proctorlaw02.FanWorkers", spec := "fanWorkers", inPlace := ["sync/atomic.LoadUint32", "(*internal/sync.Mutex).Lock", "internal/race.Disable", "sync/atomic.CompareAndSwapInt32", "internal/race.Enable", "internal/race.Acquire", "(*internal/sync.Mutex).lockSlow", "internal/sync.runtime_canSpin", "internal/sync.runtime_doSpin", "internal/sync.throw", "internal/sync.runtime_nanotime", "internal/sync.runtime_SemacquireMutex", "sync/atomic.AddInt32", "(*internal/sync.Mutex).Unlock", "internal/race.ReleaseMerge", "(*internal/sync.Mutex).unlockSlow", "internal/sync.fatal", "internal/sync.runtime_Semrelease", "sync/atomic.StoreUint32", "(*sync.WaitGroup).Go", "(*sync.WaitGroup).Add", "internal/synctest.IsInBubble", "internal/synctest.Associate[sync.WaitGroup]", "sync.fatal", "sync/atomic.OrUint64", "sync/atomic.AddUint64", "internal/race.Read", "sync/atomic.LoadUint64", "sync/atomic.StoreUint64", "internal/synctest.Disassociate[sync.WaitGroup]", "sync.runtime_Semrelease", "(*sync.WaitGroup).Go$1", "(*sync.WaitGroup).Go$1$1", "(*sync.WaitGroup).Done", "(*sync.WaitGroup).Wait", "internal/synctest.IsAssociated[sync.WaitGroup]", "sync/atomic.CompareAndSwapUint64", "internal/race.Write", "sync.runtime_SemacquireWaitGroup"], unfollowed := true, recurses := true, leaving := true, apart := false, calm := true, outside := [.timePasses] }
def FanWorkersSaid : Prop := fanWorkersRow.holds Try.pinned (OpenSpec.ofChange fanWorkersSpec)

/-- ITS FALSE NEIGHBOUR: 'it returns false'. Refute it at one input. -/
def fanWorkersWrong : ChangeSpec := { name := "fanWorkers", fn := fun _ => fun
  | [d1, d2] => { results := [.lit (.bool false)], args := [d1, d2] }
  | _ => none }
def FanWorkersWrongFalsely : Prop := fanWorkersRow.holds Try.pinned (OpenSpec.ofChange fanWorkersWrong)

/-- 'proctorlaw02.FanFails': WHATEVER THE INPUT: true; the input reads as it did. -/
def fanFailsSpec : ChangeSpec := { name := "fanFails", fn := fun _ => fun
  | [d1, d2, d3] => { results := [.lit (.bool true)], args := [d1, d2, d3] }
  | _ => none }
def fanFailsRow : OpenClaim := { program := "ytejihekciigbgaa", sum := "cde331f104ea12b37347c2de7a7649a6b38388136e868ad6d0ca96912ef91221", func := "proctor/proctorlaw02.FanFails", spec := "fanFails", inPlace := ["sync/atomic.LoadUint32", "(*internal/sync.Mutex).Lock", "internal/race.Disable", "sync/atomic.CompareAndSwapInt32", "internal/race.Enable", "internal/race.Acquire", "(*internal/sync.Mutex).lockSlow", "internal/sync.runtime_canSpin", "internal/sync.runtime_doSpin", "internal/sync.throw", "internal/sync.runtime_nanotime", "internal/sync.runtime_SemacquireMutex", "sync/atomic.AddInt32", "(*internal/sync.Mutex).Unlock", "internal/race.ReleaseMerge", "(*internal/sync.Mutex).unlockSlow", "internal/sync.fatal", "internal/sync.runtime_Semrelease", "sync/atomic.StoreUint32", "(*sync.WaitGroup).Go", "(*sync.WaitGroup).Add", "internal/synctest.IsInBubble", "internal/synctest.Associate[sync.WaitGroup]", "sync.fatal", "sync/atomic.OrUint64", "sync/atomic.AddUint64", "internal/race.Read", "sync/atomic.LoadUint64", "sync/atomic.StoreUint64", "internal/synctest.Disassociate[sync.WaitGroup]", "sync.runtime_Semrelease", "(*sync.WaitGroup).Go$1", "(*sync.WaitGroup).Go$1$1", "(*sync.WaitGroup).Done", "(*sync.WaitGroup).Wait", "internal/synctest.IsAssociated[sync.WaitGroup]", "sync/atomic.CompareAndSwapUint64", "internal/race.Write", "sync.runtime_SemacquireWaitGroup"], unfollowed := true, recurses := true, leaving := true, apart := false, calm := true, outside := [.timePasses] }
def FanFailsSaid : Prop := fanFailsRow.holds Try.pinned (OpenSpec.ofChange fanFailsSpec)

/-- ITS FALSE NEIGHBOUR: 'it returns false'. Refute it at one input. -/
def fanFailsWrong : ChangeSpec := { name := "fanFails", fn := fun _ => fun
  | [d1, d2, d3] => { results := [.lit (.bool false)], args := [d1, d2, d3] }
  | _ => none }
def FanFailsWrongFalsely : Prop := fanFailsRow.holds Try.pinned (OpenSpec.ofChange fanFailsWrong)

/-- 'proctorlaw02.FanEach': WHATEVER THE INPUT: true; the input reads as it did. -/
def fanEachSpec : ChangeSpec := { name := "fanEach", fn := fun _ => fun
  | [d1, d2, d3] => { results := [.lit (.bool true)], args := [d1, d2, d3] }
  | _ => none }
def fanEachRow : OpenClaim := { program := "ytejihekciigbgaa", sum := "cde331f104ea12b37347c2de7a7649a6b38388136e868ad6d0ca96912ef91221", func := "proctor/proctorlaw02.FanEach", spec := "fanEach", inPlace := ["sync/atomic.LoadUint32", "(*internal/sync.Mutex).Lock", "internal/race.Disable", "sync/atomic.CompareAndSwapInt32", "internal/race.Enable", "internal/race.Acquire", "(*internal/sync.Mutex).lockSlow", "internal/sync.runtime_canSpin", "internal/sync.runtime_doSpin", "internal/sync.throw", "internal/sync.runtime_nanotime", "internal/sync.runtime_SemacquireMutex", "sync/atomic.AddInt32", "(*internal/sync.Mutex).Unlock", "internal/race.ReleaseMerge", "(*internal/sync.Mutex).unlockSlow", "internal/sync.fatal", "internal/sync.runtime_Semrelease", "sync/atomic.StoreUint32", "(*sync.WaitGroup).Go", "(*sync.WaitGroup).Add", "internal/synctest.IsInBubble", "internal/synctest.Associate[sync.WaitGroup]", "sync.fatal", "sync/atomic.OrUint64", "sync/atomic.AddUint64", "internal/race.Read", "sync/atomic.LoadUint64", "sync/atomic.StoreUint64", "internal/synctest.Disassociate[sync.WaitGroup]", "sync.runtime_Semrelease", "(*sync.WaitGroup).Go$1", "(*sync.WaitGroup).Go$1$1", "(*sync.WaitGroup).Done", "(*sync.WaitGroup).Wait", "internal/synctest.IsAssociated[sync.WaitGroup]", "sync/atomic.CompareAndSwapUint64", "internal/race.Write", "sync.runtime_SemacquireWaitGroup"], unfollowed := true, recurses := true, leaving := true, apart := false, calm := true, outside := [.timePasses] }
def FanEachSaid : Prop := fanEachRow.holds Try.pinned (OpenSpec.ofChange fanEachSpec)

/-- ITS FALSE NEIGHBOUR: 'it returns false'. Refute it at one input. -/
def fanEachWrong : ChangeSpec := { name := "fanEach", fn := fun _ => fun
  | [d1, d2, d3] => { results := [.lit (.bool false)], args := [d1, d2, d3] }
  | _ => none }
def FanEachWrongFalsely : Prop := fanEachRow.holds Try.pinned (OpenSpec.ofChange fanEachWrong)

/-- 'proctorlaw02.FanBeats': WHATEVER THE INPUT: true; the input reads as it did. -/
def fanBeatsSpec : ChangeSpec := { name := "fanBeats", fn := fun _ => fun
  | [d1, d2] => { results := [.lit (.bool true)], args := [d1, d2] }
  | _ => none }
def fanBeatsRow : OpenClaim := { program := "ytejihekciigbgaa", sum := "cde331f104ea12b37347c2de7a7649a6b38388136e868ad6d0ca96912ef91221", func := "proctor/proctorlaw02.FanBeats", spec := "fanBeats", inPlace := ["sync/atomic.LoadUint32", "(*internal/sync.Mutex).Lock", "internal/race.Disable", "sync/atomic.CompareAndSwapInt32", "internal/race.Enable", "internal/race.Acquire", "(*internal/sync.Mutex).lockSlow", "internal/sync.runtime_canSpin", "internal/sync.runtime_doSpin", "internal/sync.throw", "internal/sync.runtime_nanotime", "internal/sync.runtime_SemacquireMutex", "sync/atomic.AddInt32", "(*internal/sync.Mutex).Unlock", "internal/race.ReleaseMerge", "(*internal/sync.Mutex).unlockSlow", "internal/sync.fatal", "internal/sync.runtime_Semrelease", "sync/atomic.StoreUint32", "(*sync.WaitGroup).Go", "(*sync.WaitGroup).Add", "internal/synctest.IsInBubble", "internal/synctest.Associate[sync.WaitGroup]", "sync.fatal", "sync/atomic.OrUint64", "sync/atomic.AddUint64", "internal/race.Read", "sync/atomic.LoadUint64", "sync/atomic.StoreUint64", "internal/synctest.Disassociate[sync.WaitGroup]", "sync.runtime_Semrelease", "(*sync.WaitGroup).Go$1", "(*sync.WaitGroup).Go$1$1", "(*sync.WaitGroup).Done", "(*sync.WaitGroup).Wait", "internal/synctest.IsAssociated[sync.WaitGroup]", "sync/atomic.CompareAndSwapUint64", "internal/race.Write", "sync.runtime_SemacquireWaitGroup"], unfollowed := true, recurses := true, leaving := true, apart := false, calm := true, outside := [.timePasses] }
def FanBeatsSaid : Prop := fanBeatsRow.holds Try.pinned (OpenSpec.ofChange fanBeatsSpec)

/-- ITS FALSE NEIGHBOUR: 'it returns false'. Refute it at one input. -/
def fanBeatsWrong : ChangeSpec := { name := "fanBeats", fn := fun _ => fun
  | [d1, d2] => { results := [.lit (.bool false)], args := [d1, d2] }
  | _ => none }
def FanBeatsWrongFalsely : Prop := fanBeatsRow.holds Try.pinned (OpenSpec.ofChange fanBeatsWrong)

/- THE SECOND FORM. 'bulk': how many values and letters a reading holds, each counted each time it is reached (what is shared counts as often as it is met; a slice's spare places count too). A statement '..UptoSaid' is the law's where the arguments, and the package variables that the reading takes, are together of bulk at most 1048576: NARROWER than '..Said'. Prove '..Said' where nothing that the law and all that it calls make is longer than what came in: it says more and counts as full. Else prove '..UptoSaid'. A law counts once. -/
mutual
def uptoBulk {H : Type} : DataW H → Nat
  | .lit (.string bytes) => bytes.length + 1
  | .lit _ => 1
  | .nil => 1
  | .ptr d => uptoBulk d + 1
  | .slice elems spare => uptoBulkAll elems + uptoBulkAll spare + 1
  | .agg parts => uptoBulkAll parts + 1
  | .iface _ d => uptoBulk d + 1
  | .map entries => uptoBulkEntries entries + 1
  | .held _ => 1
def uptoBulkAll {H : Type} : List (DataW H) → Nat
  | [] => 0
  | d :: r => uptoBulk d + uptoBulkAll r
def uptoBulkEntries {H : Type} : List (Lit × DataW H) → Nat
  | [] => 0
  | x :: r => uptoBulkEntry x + uptoBulkEntries r
def uptoBulkEntry {H : Type} : Lit × DataW H → Nat
  | (.string bytes, d) => bytes.length + uptoBulk d + 1
  | (_, d) => uptoBulk d + 1
 end
def uptoSmall : (H : Type) → List (DataW H) → Bool := fun _ ds => decide (uptoBulkAll ds ≤ 1048576)
def OpenSpec.upto (s : _root_.Go.ChangeSpec) : _root_.Go.OpenSpec := { _root_.Go.OpenSpec.ofChange s with cond := some uptoSmall }

/-- 'proctorlaw02.FanShards', WHERE WHAT IT READS IS OF BULK AT MOST 1048576: true; the input reads as it did. -/
def fanShardsUptoRow : OpenClaim := { program := "ytejihekciigbgaa", sum := "cde331f104ea12b37347c2de7a7649a6b38388136e868ad6d0ca96912ef91221", func := "proctor/proctorlaw02.FanShards", spec := "fanShards", apart := false, narrowed := true }
def FanShardsUptoSaid : Prop := fanShardsUptoRow.holds Try.pinned (OpenSpec.upto fanShardsSpec)

/-- 'proctorlaw02.FanOrder', WHERE WHAT IT READS IS OF BULK AT MOST 1048576: true; the input reads as it did. -/
def fanOrderUptoRow : OpenClaim := { program := "ytejihekciigbgaa", sum := "cde331f104ea12b37347c2de7a7649a6b38388136e868ad6d0ca96912ef91221", func := "proctor/proctorlaw02.FanOrder", spec := "fanOrder", inPlace := ["sync/atomic.LoadUint32", "(*internal/sync.Mutex).Lock", "internal/race.Disable", "sync/atomic.CompareAndSwapInt32", "internal/race.Enable", "internal/race.Acquire", "(*internal/sync.Mutex).lockSlow", "internal/sync.runtime_canSpin", "internal/sync.runtime_doSpin", "internal/sync.throw", "internal/sync.runtime_nanotime", "internal/sync.runtime_SemacquireMutex", "sync/atomic.AddInt32", "(*internal/sync.Mutex).Unlock", "internal/race.ReleaseMerge", "(*internal/sync.Mutex).unlockSlow", "internal/sync.fatal", "internal/sync.runtime_Semrelease", "sync/atomic.StoreUint32", "(*sync.WaitGroup).Go", "(*sync.WaitGroup).Add", "internal/synctest.IsInBubble", "internal/synctest.Associate[sync.WaitGroup]", "sync.fatal", "sync/atomic.OrUint64", "sync/atomic.AddUint64", "internal/race.Read", "sync/atomic.LoadUint64", "sync/atomic.StoreUint64", "internal/synctest.Disassociate[sync.WaitGroup]", "sync.runtime_Semrelease", "(*sync.WaitGroup).Go$1", "(*sync.WaitGroup).Go$1$1", "(*sync.WaitGroup).Done", "(*sync.WaitGroup).Wait", "internal/synctest.IsAssociated[sync.WaitGroup]", "sync/atomic.CompareAndSwapUint64", "internal/race.Write", "sync.runtime_SemacquireWaitGroup"], unfollowed := true, recurses := true, leaving := true, apart := false, calm := true, outside := [.timePasses], narrowed := true }
def FanOrderUptoSaid : Prop := fanOrderUptoRow.holds Try.pinned (OpenSpec.upto fanOrderSpec)

/-- 'proctorlaw02.FanWorkers', WHERE WHAT IT READS IS OF BULK AT MOST 1048576: true; the input reads as it did. -/
def fanWorkersUptoRow : OpenClaim := { program := "ytejihekciigbgaa", sum := "cde331f104ea12b37347c2de7a7649a6b38388136e868ad6d0ca96912ef91221", func := "proctor/proctorlaw02.FanWorkers", spec := "fanWorkers", inPlace := ["sync/atomic.LoadUint32", "(*internal/sync.Mutex).Lock", "internal/race.Disable", "sync/atomic.CompareAndSwapInt32", "internal/race.Enable", "internal/race.Acquire", "(*internal/sync.Mutex).lockSlow", "internal/sync.runtime_canSpin", "internal/sync.runtime_doSpin", "internal/sync.throw", "internal/sync.runtime_nanotime", "internal/sync.runtime_SemacquireMutex", "sync/atomic.AddInt32", "(*internal/sync.Mutex).Unlock", "internal/race.ReleaseMerge", "(*internal/sync.Mutex).unlockSlow", "internal/sync.fatal", "internal/sync.runtime_Semrelease", "sync/atomic.StoreUint32", "(*sync.WaitGroup).Go", "(*sync.WaitGroup).Add", "internal/synctest.IsInBubble", "internal/synctest.Associate[sync.WaitGroup]", "sync.fatal", "sync/atomic.OrUint64", "sync/atomic.AddUint64", "internal/race.Read", "sync/atomic.LoadUint64", "sync/atomic.StoreUint64", "internal/synctest.Disassociate[sync.WaitGroup]", "sync.runtime_Semrelease", "(*sync.WaitGroup).Go$1", "(*sync.WaitGroup).Go$1$1", "(*sync.WaitGroup).Done", "(*sync.WaitGroup).Wait", "internal/synctest.IsAssociated[sync.WaitGroup]", "sync/atomic.CompareAndSwapUint64", "internal/race.Write", "sync.runtime_SemacquireWaitGroup"], unfollowed := true, recurses := true, leaving := true, apart := false, calm := true, outside := [.timePasses], narrowed := true }
def FanWorkersUptoSaid : Prop := fanWorkersUptoRow.holds Try.pinned (OpenSpec.upto fanWorkersSpec)

/-- 'proctorlaw02.FanFails', WHERE WHAT IT READS IS OF BULK AT MOST 1048576: true; the input reads as it did. -/
def fanFailsUptoRow : OpenClaim := { program := "ytejihekciigbgaa", sum := "cde331f104ea12b37347c2de7a7649a6b38388136e868ad6d0ca96912ef91221", func := "proctor/proctorlaw02.FanFails", spec := "fanFails", inPlace := ["sync/atomic.LoadUint32", "(*internal/sync.Mutex).Lock", "internal/race.Disable", "sync/atomic.CompareAndSwapInt32", "internal/race.Enable", "internal/race.Acquire", "(*internal/sync.Mutex).lockSlow", "internal/sync.runtime_canSpin", "internal/sync.runtime_doSpin", "internal/sync.throw", "internal/sync.runtime_nanotime", "internal/sync.runtime_SemacquireMutex", "sync/atomic.AddInt32", "(*internal/sync.Mutex).Unlock", "internal/race.ReleaseMerge", "(*internal/sync.Mutex).unlockSlow", "internal/sync.fatal", "internal/sync.runtime_Semrelease", "sync/atomic.StoreUint32", "(*sync.WaitGroup).Go", "(*sync.WaitGroup).Add", "internal/synctest.IsInBubble", "internal/synctest.Associate[sync.WaitGroup]", "sync.fatal", "sync/atomic.OrUint64", "sync/atomic.AddUint64", "internal/race.Read", "sync/atomic.LoadUint64", "sync/atomic.StoreUint64", "internal/synctest.Disassociate[sync.WaitGroup]", "sync.runtime_Semrelease", "(*sync.WaitGroup).Go$1", "(*sync.WaitGroup).Go$1$1", "(*sync.WaitGroup).Done", "(*sync.WaitGroup).Wait", "internal/synctest.IsAssociated[sync.WaitGroup]", "sync/atomic.CompareAndSwapUint64", "internal/race.Write", "sync.runtime_SemacquireWaitGroup"], unfollowed := true, recurses := true, leaving := true, apart := false, calm := true, outside := [.timePasses], narrowed := true }
def FanFailsUptoSaid : Prop := fanFailsUptoRow.holds Try.pinned (OpenSpec.upto fanFailsSpec)

/-- 'proctorlaw02.FanEach', WHERE WHAT IT READS IS OF BULK AT MOST 1048576: true; the input reads as it did. -/
def fanEachUptoRow : OpenClaim := { program := "ytejihekciigbgaa", sum := "cde331f104ea12b37347c2de7a7649a6b38388136e868ad6d0ca96912ef91221", func := "proctor/proctorlaw02.FanEach", spec := "fanEach", inPlace := ["sync/atomic.LoadUint32", "(*internal/sync.Mutex).Lock", "internal/race.Disable", "sync/atomic.CompareAndSwapInt32", "internal/race.Enable", "internal/race.Acquire", "(*internal/sync.Mutex).lockSlow", "internal/sync.runtime_canSpin", "internal/sync.runtime_doSpin", "internal/sync.throw", "internal/sync.runtime_nanotime", "internal/sync.runtime_SemacquireMutex", "sync/atomic.AddInt32", "(*internal/sync.Mutex).Unlock", "internal/race.ReleaseMerge", "(*internal/sync.Mutex).unlockSlow", "internal/sync.fatal", "internal/sync.runtime_Semrelease", "sync/atomic.StoreUint32", "(*sync.WaitGroup).Go", "(*sync.WaitGroup).Add", "internal/synctest.IsInBubble", "internal/synctest.Associate[sync.WaitGroup]", "sync.fatal", "sync/atomic.OrUint64", "sync/atomic.AddUint64", "internal/race.Read", "sync/atomic.LoadUint64", "sync/atomic.StoreUint64", "internal/synctest.Disassociate[sync.WaitGroup]", "sync.runtime_Semrelease", "(*sync.WaitGroup).Go$1", "(*sync.WaitGroup).Go$1$1", "(*sync.WaitGroup).Done", "(*sync.WaitGroup).Wait", "internal/synctest.IsAssociated[sync.WaitGroup]", "sync/atomic.CompareAndSwapUint64", "internal/race.Write", "sync.runtime_SemacquireWaitGroup"], unfollowed := true, recurses := true, leaving := true, apart := false, calm := true, outside := [.timePasses], narrowed := true }
def FanEachUptoSaid : Prop := fanEachUptoRow.holds Try.pinned (OpenSpec.upto fanEachSpec)

/-- 'proctorlaw02.FanBeats', WHERE WHAT IT READS IS OF BULK AT MOST 1048576: true; the input reads as it did. -/
def fanBeatsUptoRow : OpenClaim := { program := "ytejihekciigbgaa", sum := "cde331f104ea12b37347c2de7a7649a6b38388136e868ad6d0ca96912ef91221", func := "proctor/proctorlaw02.FanBeats", spec := "fanBeats", inPlace := ["sync/atomic.LoadUint32", "(*internal/sync.Mutex).Lock", "internal/race.Disable", "sync/atomic.CompareAndSwapInt32", "internal/race.Enable", "internal/race.Acquire", "(*internal/sync.Mutex).lockSlow", "internal/sync.runtime_canSpin", "internal/sync.runtime_doSpin", "internal/sync.throw", "internal/sync.runtime_nanotime", "internal/sync.runtime_SemacquireMutex", "sync/atomic.AddInt32", "(*internal/sync.Mutex).Unlock", "internal/race.ReleaseMerge", "(*internal/sync.Mutex).unlockSlow", "internal/sync.fatal", "internal/sync.runtime_Semrelease", "sync/atomic.StoreUint32", "(*sync.WaitGroup).Go", "(*sync.WaitGroup).Add", "internal/synctest.IsInBubble", "internal/synctest.Associate[sync.WaitGroup]", "sync.fatal", "sync/atomic.OrUint64", "sync/atomic.AddUint64", "internal/race.Read", "sync/atomic.LoadUint64", "sync/atomic.StoreUint64", "internal/synctest.Disassociate[sync.WaitGroup]", "sync.runtime_Semrelease", "(*sync.WaitGroup).Go$1", "(*sync.WaitGroup).Go$1$1", "(*sync.WaitGroup).Done", "(*sync.WaitGroup).Wait", "internal/synctest.IsAssociated[sync.WaitGroup]", "sync/atomic.CompareAndSwapUint64", "internal/race.Write", "sync.runtime_SemacquireWaitGroup"], unfollowed := true, recurses := true, leaving := true, apart := false, calm := true, outside := [.timePasses], narrowed := true }
def FanBeatsUptoSaid : Prop := fanBeatsUptoRow.holds Try.pinned (OpenSpec.upto fanBeatsSpec)

end Rows
end Go.Proofs.Ytejihekciigbgaa
