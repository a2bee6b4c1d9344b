/-
  No cell of these rows narrows 'for every input' (looked for: loops, veiled, ifaces, maps, wideKeys, modest, calm, conditions, laid).
  DERIVED. THE GIVEN ROWS OF THIS SEAT. 7 by the template 'for every input the law returns true; each argument reads behind the call as it read before'; 0 by the template 'total and deterministic' (their statements: YtcfdpeafnpeddaaTotals.lean).
  GIVEN WITH THE SEED: the statements are not yours to turn. If you find one false, say at which input.
  Laid BY PROGRAM, IN A SANDBOX (cutbox-rows.mjs): the forced cells as the released guide's own fill.sh prints them over the translation 80debc8487255969… (all of the seat's roots in one cut). By AI agents, Wed Nov 11 2026. No macro, syntax, notation, axiom, sorry.
-/
import Derived.Test.YtcfdpeafnpeddaaChecked
import GoSem.Claim
import GoSem.ClaimJoined
import GoSem.ClaimMapViews
import Derived.JoinedTies
import Derived.KernelRfl
namespace Go.Proofs.Ytcfdpeafnpeddaa
/- THE CELL 'sum', in the pinned program and in every row, IS THE sha256 OF THE DUMP (.gsa) THAT YtcfdpeafnpeddaaProg.lean LOADS. Nothing in Lean hashes anything: it is a label: what it is worth is what the hold of that sum in a sandbox is worth. -/
noncomputable def Try.pinned : Pinned := { name := "ytcfdpeafnpeddaa", sum := "80debc848725596987af241ae25e61250ce132b3a65145a738b692554683d13e", checked := Try.checked }
namespace Rows
def none {H : Type} : Left H := { results := [], args := [] }

/-- 'proctorlaw01.HaltBeats': WHATEVER THE INPUT: true; the input reads as it did. -/
def haltBeatsSpec : ChangeSpec := { name := "haltBeats", fn := fun _ => fun
  | [d] => { results := [.lit (.bool true)], args := [d] }
  | _ => none }
def haltBeatsRow : OpenClaim := { program := "ytcfdpeafnpeddaa", sum := "80debc848725596987af241ae25e61250ce132b3a65145a738b692554683d13e", func := "proctor/proctorlaw01.HaltBeats", spec := "haltBeats", inPlace := ["(*internal/sync.Mutex).Lock", "internal/race.Disable", "sync/atomic.CompareAndSwapInt32", "internal/race.Enable", "internal/race.Acquire", "(*internal/sync.Mutex).lockSlow", "internal/sync.runtime_canSpin", "internal/sync.runtime_doSpin", "internal/sync.throw", "internal/sync.runtime_nanotime", "internal/sync.runtime_SemacquireMutex", "sync/atomic.AddInt32", "(*internal/sync.Mutex).Unlock", "internal/race.ReleaseMerge", "(*internal/sync.Mutex).unlockSlow", "internal/sync.fatal", "internal/sync.runtime_Semrelease", "sync/atomic.LoadUint32", "sync/atomic.StoreUint32"], unfollowed := true, recurses := true, apart := false }
def HaltBeatsSaid : Prop := haltBeatsRow.holds Try.pinned (OpenSpec.ofChange haltBeatsSpec)

/-- ITS FALSE NEIGHBOUR: 'it returns false'. Refute it at one input. -/
def haltBeatsWrong : ChangeSpec := { name := "haltBeats", fn := fun _ => fun
  | [d] => { results := [.lit (.bool false)], args := [d] }
  | _ => none }
def HaltBeatsWrongFalsely : Prop := haltBeatsRow.holds Try.pinned (OpenSpec.ofChange haltBeatsWrong)

/-- 'proctorlaw01.HaltShared': WHATEVER THE INPUT: true; the input reads as it did. -/
def haltSharedSpec : ChangeSpec := { name := "haltShared", fn := fun _ => fun
  | [d1, d2] => { results := [.lit (.bool true)], args := [d1, d2] }
  | _ => none }
def haltSharedRow : OpenClaim := { program := "ytcfdpeafnpeddaa", sum := "80debc848725596987af241ae25e61250ce132b3a65145a738b692554683d13e", func := "proctor/proctorlaw01.HaltShared", spec := "haltShared", inPlace := ["(*internal/sync.Mutex).Lock", "internal/race.Disable", "sync/atomic.CompareAndSwapInt32", "internal/race.Enable", "internal/race.Acquire", "(*internal/sync.Mutex).lockSlow", "internal/sync.runtime_canSpin", "internal/sync.runtime_doSpin", "internal/sync.throw", "internal/sync.runtime_nanotime", "internal/sync.runtime_SemacquireMutex", "sync/atomic.AddInt32", "(*internal/sync.Mutex).Unlock", "internal/race.ReleaseMerge", "(*internal/sync.Mutex).unlockSlow", "internal/sync.fatal", "internal/sync.runtime_Semrelease", "sync/atomic.LoadUint32", "sync/atomic.StoreUint32"], unfollowed := true, recurses := true, apart := false }
def HaltSharedSaid : Prop := haltSharedRow.holds Try.pinned (OpenSpec.ofChange haltSharedSpec)

/-- ITS FALSE NEIGHBOUR: 'it returns false'. Refute it at one input. -/
def haltSharedWrong : ChangeSpec := { name := "haltShared", fn := fun _ => fun
  | [d1, d2] => { results := [.lit (.bool false)], args := [d1, d2] }
  | _ => none }
def HaltSharedWrongFalsely : Prop := haltSharedRow.holds Try.pinned (OpenSpec.ofChange haltSharedWrong)

/-- 'proctorlaw01.HaltRefuses': WHATEVER THE INPUT: true; the input reads as it did. -/
def haltRefusesSpec : ChangeSpec := { name := "haltRefuses", fn := fun _ => fun
  | [d] => { results := [.lit (.bool true)], args := [d] }
  | _ => none }
def haltRefusesRow : OpenClaim := { program := "ytcfdpeafnpeddaa", sum := "80debc848725596987af241ae25e61250ce132b3a65145a738b692554683d13e", func := "proctor/proctorlaw01.HaltRefuses", spec := "haltRefuses", inPlace := ["(*internal/sync.Mutex).Lock", "internal/race.Disable", "sync/atomic.CompareAndSwapInt32", "internal/race.Enable", "internal/race.Acquire", "(*internal/sync.Mutex).lockSlow", "internal/sync.runtime_canSpin", "internal/sync.runtime_doSpin", "internal/sync.throw", "internal/sync.runtime_nanotime", "internal/sync.runtime_SemacquireMutex", "sync/atomic.AddInt32", "(*internal/sync.Mutex).Unlock", "internal/race.ReleaseMerge", "(*internal/sync.Mutex).unlockSlow", "internal/sync.fatal", "internal/sync.runtime_Semrelease", "sync/atomic.LoadUint32", "sync/atomic.StoreUint32"], unfollowed := true, recurses := true, apart := false }
def HaltRefusesSaid : Prop := haltRefusesRow.holds Try.pinned (OpenSpec.ofChange haltRefusesSpec)

/-- ITS FALSE NEIGHBOUR: 'it returns false'. Refute it at one input. -/
def haltRefusesWrong : ChangeSpec := { name := "haltRefuses", fn := fun _ => fun
  | [d] => { results := [.lit (.bool false)], args := [d] }
  | _ => none }
def HaltRefusesWrongFalsely : Prop := haltRefusesRow.holds Try.pinned (OpenSpec.ofChange haltRefusesWrong)

/-- 'proctorlaw01.HaltMany': WHATEVER THE INPUT: true; the input reads as it did. -/
def haltManySpec : ChangeSpec := { name := "haltMany", fn := fun _ => fun
  | [d] => { results := [.lit (.bool true)], args := [d] }
  | _ => none }
def haltManyRow : OpenClaim := { program := "ytcfdpeafnpeddaa", sum := "80debc848725596987af241ae25e61250ce132b3a65145a738b692554683d13e", func := "proctor/proctorlaw01.HaltMany", spec := "haltMany", inPlace := ["(*internal/sync.Mutex).Lock", "internal/race.Disable", "sync/atomic.CompareAndSwapInt32", "internal/race.Enable", "internal/race.Acquire", "(*internal/sync.Mutex).lockSlow", "internal/sync.runtime_canSpin", "internal/sync.runtime_doSpin", "internal/sync.throw", "internal/sync.runtime_nanotime", "internal/sync.runtime_SemacquireMutex", "sync/atomic.AddInt32", "(*internal/sync.Mutex).Unlock", "internal/race.ReleaseMerge", "(*internal/sync.Mutex).unlockSlow", "internal/sync.fatal", "internal/sync.runtime_Semrelease", "sync/atomic.LoadUint32", "sync/atomic.StoreUint32"], unfollowed := true, recurses := true, apart := false }
def HaltManySaid : Prop := haltManyRow.holds Try.pinned (OpenSpec.ofChange haltManySpec)

/-- ITS FALSE NEIGHBOUR: 'it returns false'. Refute it at one input. -/
def haltManyWrong : ChangeSpec := { name := "haltMany", fn := fun _ => fun
  | [d] => { results := [.lit (.bool false)], args := [d] }
  | _ => none }
def HaltManyWrongFalsely : Prop := haltManyRow.holds Try.pinned (OpenSpec.ofChange haltManyWrong)

/-- 'proctorlaw01.HaltPlays': WHATEVER THE INPUT: true; the input reads as it did. -/
def haltPlaysSpec : ChangeSpec := { name := "haltPlays", fn := fun _ => fun
  | [d1, d2] => { results := [.lit (.bool true)], args := [d1, d2] }
  | _ => none }
def haltPlaysRow : OpenClaim := { program := "ytcfdpeafnpeddaa", sum := "80debc848725596987af241ae25e61250ce132b3a65145a738b692554683d13e", func := "proctor/proctorlaw01.HaltPlays", spec := "haltPlays", inPlace := ["(*internal/sync.Mutex).Lock", "internal/race.Disable", "sync/atomic.CompareAndSwapInt32", "internal/race.Enable", "internal/race.Acquire", "(*internal/sync.Mutex).lockSlow", "internal/sync.runtime_canSpin", "internal/sync.runtime_doSpin", "internal/sync.throw", "internal/sync.runtime_nanotime", "internal/sync.runtime_SemacquireMutex", "sync/atomic.AddInt32", "(*internal/sync.Mutex).Unlock", "internal/race.ReleaseMerge", "(*internal/sync.Mutex).unlockSlow", "internal/sync.fatal", "internal/sync.runtime_Semrelease", "sync/atomic.LoadUint32", "sync/atomic.StoreUint32"], unfollowed := true, recurses := true, apart := false }
def HaltPlaysSaid : Prop := haltPlaysRow.holds Try.pinned (OpenSpec.ofChange haltPlaysSpec)

/-- ITS FALSE NEIGHBOUR: 'it returns false'. Refute it at one input. -/
def haltPlaysWrong : ChangeSpec := { name := "haltPlays", fn := fun _ => fun
  | [d1, d2] => { results := [.lit (.bool false)], args := [d1, d2] }
  | _ => none }
def HaltPlaysWrongFalsely : Prop := haltPlaysRow.holds Try.pinned (OpenSpec.ofChange haltPlaysWrong)

/-- 'proctorlaw01.HaltBelow': WHATEVER THE INPUT: true; the input reads as it did. -/
def haltBelowSpec : ChangeSpec := { name := "haltBelow", fn := fun _ => fun
  | [d1, d2] => { results := [.lit (.bool true)], args := [d1, d2] }
  | _ => none }
def haltBelowRow : OpenClaim := { program := "ytcfdpeafnpeddaa", sum := "80debc848725596987af241ae25e61250ce132b3a65145a738b692554683d13e", func := "proctor/proctorlaw01.HaltBelow", spec := "haltBelow", inPlace := ["(*internal/sync.Mutex).Lock", "internal/race.Disable", "sync/atomic.CompareAndSwapInt32", "internal/race.Enable", "internal/race.Acquire", "(*internal/sync.Mutex).lockSlow", "internal/sync.runtime_canSpin", "internal/sync.runtime_doSpin", "internal/sync.throw", "internal/sync.runtime_nanotime", "internal/sync.runtime_SemacquireMutex", "sync/atomic.AddInt32", "(*internal/sync.Mutex).Unlock", "internal/race.ReleaseMerge", "(*internal/sync.Mutex).unlockSlow", "internal/sync.fatal", "internal/sync.runtime_Semrelease", "sync/atomic.LoadUint32", "sync/atomic.StoreUint32"], unfollowed := true, recurses := true, apart := false }
def HaltBelowSaid : Prop := haltBelowRow.holds Try.pinned (OpenSpec.ofChange haltBelowSpec)

/-- ITS FALSE NEIGHBOUR: 'it returns false'. Refute it at one input. -/
def haltBelowWrong : ChangeSpec := { name := "haltBelow", fn := fun _ => fun
  | [d1, d2] => { results := [.lit (.bool false)], args := [d1, d2] }
  | _ => none }
def HaltBelowWrongFalsely : Prop := haltBelowRow.holds Try.pinned (OpenSpec.ofChange haltBelowWrong)

/-- 'proctorlaw01.HaltApart': WHATEVER THE INPUT: true; the input reads as it did. -/
def haltApartSpec : ChangeSpec := { name := "haltApart", fn := fun _ => fun
  | [d1, d2] => { results := [.lit (.bool true)], args := [d1, d2] }
  | _ => none }
def haltApartRow : OpenClaim := { program := "ytcfdpeafnpeddaa", sum := "80debc848725596987af241ae25e61250ce132b3a65145a738b692554683d13e", func := "proctor/proctorlaw01.HaltApart", spec := "haltApart", inPlace := ["(*internal/sync.Mutex).Lock", "internal/race.Disable", "sync/atomic.CompareAndSwapInt32", "internal/race.Enable", "internal/race.Acquire", "(*internal/sync.Mutex).lockSlow", "internal/sync.runtime_canSpin", "internal/sync.runtime_doSpin", "internal/sync.throw", "internal/sync.runtime_nanotime", "internal/sync.runtime_SemacquireMutex", "sync/atomic.AddInt32", "(*internal/sync.Mutex).Unlock", "internal/race.ReleaseMerge", "(*internal/sync.Mutex).unlockSlow", "internal/sync.fatal", "internal/sync.runtime_Semrelease", "sync/atomic.LoadUint32", "sync/atomic.StoreUint32"], unfollowed := true, recurses := true, apart := false }
def HaltApartSaid : Prop := haltApartRow.holds Try.pinned (OpenSpec.ofChange haltApartSpec)

/-- ITS FALSE NEIGHBOUR: 'it returns false'. Refute it at one input. -/
def haltApartWrong : ChangeSpec := { name := "haltApart", fn := fun _ => fun
  | [d1, d2] => { results := [.lit (.bool false)], args := [d1, d2] }
  | _ => none }
def HaltApartWrongFalsely : Prop := haltApartRow.holds Try.pinned (OpenSpec.ofChange haltApartWrong)

/- THE SECOND FORM. 'bulk': how many values and letters a reading holds, each counted each time it is reached (what is shared counts as often as it is met; a slice's spare places count too). A statement '..UptoSaid' is the law's where the arguments, and the package variables that the reading takes, are together of bulk at most 1048576: NARROWER than '..Said'. Prove '..Said' where nothing that the law and all that it calls make is longer than what came in: it says more and counts as full. Else prove '..UptoSaid'. A law counts once. -/
mutual
def uptoBulk {H : Type} : DataW H → Nat
  | .lit (.string bytes) => bytes.length + 1
  | .lit _ => 1
  | .nil => 1
  | .ptr d => uptoBulk d + 1
  | .slice elems spare => uptoBulkAll elems + uptoBulkAll spare + 1
  | .agg parts => uptoBulkAll parts + 1
  | .iface _ d => uptoBulk d + 1
  | .map entries => uptoBulkEntries entries + 1
  | .held _ => 1
def uptoBulkAll {H : Type} : List (DataW H) → Nat
  | [] => 0
  | d :: r => uptoBulk d + uptoBulkAll r
def uptoBulkEntries {H : Type} : List (Lit × DataW H) → Nat
  | [] => 0
  | x :: r => uptoBulkEntry x + uptoBulkEntries r
def uptoBulkEntry {H : Type} : Lit × DataW H → Nat
  | (.string bytes, d) => bytes.length + uptoBulk d + 1
  | (_, d) => uptoBulk d + 1
 end
def uptoSmall : (H : Type) → List (DataW H) → Bool := fun _ ds => decide (uptoBulkAll ds ≤ 1048576)
def OpenSpec.upto (s : _root_.Go.ChangeSpec) : _root_.Go.OpenSpec := { _root_.Go.OpenSpec.ofChange s with cond := some uptoSmall }

/-- 'proctorlaw01.HaltBeats', WHERE WHAT IT READS IS OF BULK AT MOST 1048576: true; the input reads as it did. -/
def haltBeatsUptoRow : OpenClaim := { program := "ytcfdpeafnpeddaa", sum := "80debc848725596987af241ae25e61250ce132b3a65145a738b692554683d13e", func := "proctor/proctorlaw01.HaltBeats", spec := "haltBeats", inPlace := ["(*internal/sync.Mutex).Lock", "internal/race.Disable", "sync/atomic.CompareAndSwapInt32", "internal/race.Enable", "internal/race.Acquire", "(*internal/sync.Mutex).lockSlow", "internal/sync.runtime_canSpin", "internal/sync.runtime_doSpin", "internal/sync.throw", "internal/sync.runtime_nanotime", "internal/sync.runtime_SemacquireMutex", "sync/atomic.AddInt32", "(*internal/sync.Mutex).Unlock", "internal/race.ReleaseMerge", "(*internal/sync.Mutex).unlockSlow", "internal/sync.fatal", "internal/sync.runtime_Semrelease", "sync/atomic.LoadUint32", "sync/atomic.StoreUint32"], unfollowed := true, recurses := true, apart := false, narrowed := true }
def HaltBeatsUptoSaid : Prop := haltBeatsUptoRow.holds Try.pinned (OpenSpec.upto haltBeatsSpec)

/-- 'proctorlaw01.HaltShared', WHERE WHAT IT READS IS OF BULK AT MOST 1048576: true; the input reads as it did. -/
def haltSharedUptoRow : OpenClaim := { program := "ytcfdpeafnpeddaa", sum := "80debc848725596987af241ae25e61250ce132b3a65145a738b692554683d13e", func := "proctor/proctorlaw01.HaltShared", spec := "haltShared", inPlace := ["(*internal/sync.Mutex).Lock", "internal/race.Disable", "sync/atomic.CompareAndSwapInt32", "internal/race.Enable", "internal/race.Acquire", "(*internal/sync.Mutex).lockSlow", "internal/sync.runtime_canSpin", "internal/sync.runtime_doSpin", "internal/sync.throw", "internal/sync.runtime_nanotime", "internal/sync.runtime_SemacquireMutex", "sync/atomic.AddInt32", "(*internal/sync.Mutex).Unlock", "internal/race.ReleaseMerge", "(*internal/sync.Mutex).unlockSlow", "internal/sync.fatal", "internal/sync.runtime_Semrelease", "sync/atomic.LoadUint32", "sync/atomic.StoreUint32"], unfollowed := true, recurses := true, apart := false, narrowed := true }
def HaltSharedUptoSaid : Prop := haltSharedUptoRow.holds Try.pinned (OpenSpec.upto haltSharedSpec)

/-- 'proctorlaw01.HaltRefuses', WHERE WHAT IT READS IS OF BULK AT MOST 1048576: true; the input reads as it did. -/
def haltRefusesUptoRow : OpenClaim := { program := "ytcfdpeafnpeddaa", sum := "80debc848725596987af241ae25e61250ce132b3a65145a738b692554683d13e", func := "proctor/proctorlaw01.HaltRefuses", spec := "haltRefuses", inPlace := ["(*internal/sync.Mutex).Lock", "internal/race.Disable", "sync/atomic.CompareAndSwapInt32", "internal/race.Enable", "internal/race.Acquire", "(*internal/sync.Mutex).lockSlow", "internal/sync.runtime_canSpin", "internal/sync.runtime_doSpin", "internal/sync.throw", "internal/sync.runtime_nanotime", "internal/sync.runtime_SemacquireMutex", "sync/atomic.AddInt32", "(*internal/sync.Mutex).Unlock", "internal/race.ReleaseMerge", "(*internal/sync.Mutex).unlockSlow", "internal/sync.fatal", "internal/sync.runtime_Semrelease", "sync/atomic.LoadUint32", "sync/atomic.StoreUint32"], unfollowed := true, recurses := true, apart := false, narrowed := true }
def HaltRefusesUptoSaid : Prop := haltRefusesUptoRow.holds Try.pinned (OpenSpec.upto haltRefusesSpec)

/-- 'proctorlaw01.HaltMany', WHERE WHAT IT READS IS OF BULK AT MOST 1048576: true; the input reads as it did. -/
def haltManyUptoRow : OpenClaim := { program := "ytcfdpeafnpeddaa", sum := "80debc848725596987af241ae25e61250ce132b3a65145a738b692554683d13e", func := "proctor/proctorlaw01.HaltMany", spec := "haltMany", inPlace := ["(*internal/sync.Mutex).Lock", "internal/race.Disable", "sync/atomic.CompareAndSwapInt32", "internal/race.Enable", "internal/race.Acquire", "(*internal/sync.Mutex).lockSlow", "internal/sync.runtime_canSpin", "internal/sync.runtime_doSpin", "internal/sync.throw", "internal/sync.runtime_nanotime", "internal/sync.runtime_SemacquireMutex", "sync/atomic.AddInt32", "(*internal/sync.Mutex).Unlock", "internal/race.ReleaseMerge", "(*internal/sync.Mutex).unlockSlow", "internal/sync.fatal", "internal/sync.runtime_Semrelease", "sync/atomic.LoadUint32", "sync/atomic.StoreUint32"], unfollowed := true, recurses := true, apart := false, narrowed := true }
def HaltManyUptoSaid : Prop := haltManyUptoRow.holds Try.pinned (OpenSpec.upto haltManySpec)

/-- 'proctorlaw01.HaltPlays', WHERE WHAT IT READS IS OF BULK AT MOST 1048576: true; the input reads as it did. -/
def haltPlaysUptoRow : OpenClaim := { program := "ytcfdpeafnpeddaa", sum := "80debc848725596987af241ae25e61250ce132b3a65145a738b692554683d13e", func := "proctor/proctorlaw01.HaltPlays", spec := "haltPlays", inPlace := ["(*internal/sync.Mutex).Lock", "internal/race.Disable", "sync/atomic.CompareAndSwapInt32", "internal/race.Enable", "internal/race.Acquire", "(*internal/sync.Mutex).lockSlow", "internal/sync.runtime_canSpin", "internal/sync.runtime_doSpin", "internal/sync.throw", "internal/sync.runtime_nanotime", "internal/sync.runtime_SemacquireMutex", "sync/atomic.AddInt32", "(*internal/sync.Mutex).Unlock", "internal/race.ReleaseMerge", "(*internal/sync.Mutex).unlockSlow", "internal/sync.fatal", "internal/sync.runtime_Semrelease", "sync/atomic.LoadUint32", "sync/atomic.StoreUint32"], unfollowed := true, recurses := true, apart := false, narrowed := true }
def HaltPlaysUptoSaid : Prop := haltPlaysUptoRow.holds Try.pinned (OpenSpec.upto haltPlaysSpec)

/-- 'proctorlaw01.HaltBelow', WHERE WHAT IT READS IS OF BULK AT MOST 1048576: true; the input reads as it did. -/
def haltBelowUptoRow : OpenClaim := { program := "ytcfdpeafnpeddaa", sum := "80debc848725596987af241ae25e61250ce132b3a65145a738b692554683d13e", func := "proctor/proctorlaw01.HaltBelow", spec := "haltBelow", inPlace := ["(*internal/sync.Mutex).Lock", "internal/race.Disable", "sync/atomic.CompareAndSwapInt32", "internal/race.Enable", "internal/race.Acquire", "(*internal/sync.Mutex).lockSlow", "internal/sync.runtime_canSpin", "internal/sync.runtime_doSpin", "internal/sync.throw", "internal/sync.runtime_nanotime", "internal/sync.runtime_SemacquireMutex", "sync/atomic.AddInt32", "(*internal/sync.Mutex).Unlock", "internal/race.ReleaseMerge", "(*internal/sync.Mutex).unlockSlow", "internal/sync.fatal", "internal/sync.runtime_Semrelease", "sync/atomic.LoadUint32", "sync/atomic.StoreUint32"], unfollowed := true, recurses := true, apart := false, narrowed := true }
def HaltBelowUptoSaid : Prop := haltBelowUptoRow.holds Try.pinned (OpenSpec.upto haltBelowSpec)

/-- 'proctorlaw01.HaltApart', WHERE WHAT IT READS IS OF BULK AT MOST 1048576: true; the input reads as it did. -/
def haltApartUptoRow : OpenClaim := { program := "ytcfdpeafnpeddaa", sum := "80debc848725596987af241ae25e61250ce132b3a65145a738b692554683d13e", func := "proctor/proctorlaw01.HaltApart", spec := "haltApart", inPlace := ["(*internal/sync.Mutex).Lock", "internal/race.Disable", "sync/atomic.CompareAndSwapInt32", "internal/race.Enable", "internal/race.Acquire", "(*internal/sync.Mutex).lockSlow", "internal/sync.runtime_canSpin", "internal/sync.runtime_doSpin", "internal/sync.throw", "internal/sync.runtime_nanotime", "internal/sync.runtime_SemacquireMutex", "sync/atomic.AddInt32", "(*internal/sync.Mutex).Unlock", "internal/race.ReleaseMerge", "(*internal/sync.Mutex).unlockSlow", "internal/sync.fatal", "internal/sync.runtime_Semrelease", "sync/atomic.LoadUint32", "sync/atomic.StoreUint32"], unfollowed := true, recurses := true, apart := false, narrowed := true }
def HaltApartUptoSaid : Prop := haltApartUptoRow.holds Try.pinned (OpenSpec.upto haltApartSpec)

end Rows
end Go.Proofs.Ytcfdpeafnpeddaa
