/-
  No cell of these rows narrows 'for every input' (looked for: loops, veiled, ifaces, maps, wideKeys, modest, calm, conditions, laid).
  DERIVED. THE GIVEN ROWS OF THIS SEAT. 9 by the template 'for every input the law returns true; each argument reads behind the call as it read before'; 0 by the template 'total and deterministic' (their statements: YtfodagidmdbmlaaTotals.lean).
  GIVEN WITH THE SEED: the statements are not yours to turn. If you find one false, say at which input.
  Laid BY PROGRAM, IN A SANDBOX (cutbox-rows.mjs): the forced cells as the released guide's own fill.sh prints them over the translation 8fc4c6998f734cf2… (all of the seat's roots in one cut). By AI agents, Wed Nov 11 2026. No macro, syntax, notation, axiom, sorry.
-/
import Derived.Test.YtfodagidmdbmlaaChecked
import GoSem.Claim
import GoSem.ClaimJoined
import GoSem.ClaimMapViews
import Derived.JoinedTies
import Derived.KernelRfl
namespace Go.Proofs.Ytfodagidmdbmlaa
/- THE CELL 'sum', in the pinned program and in every row, IS THE sha256 OF THE DUMP (.gsa) THAT YtfodagidmdbmlaaProg.lean LOADS. Nothing in Lean hashes anything: it is a label: what it is worth is what the hold of that sum in a sandbox is worth. -/
noncomputable def Try.pinned : Pinned := { name := "ytfodagidmdbmlaa", sum := "8fc4c6998f734cf22103b4c0b9ce0e3a7130d645cdb56428ffcdae10b50f28f4", checked := Try.checked }
namespace Rows
def none {H : Type} : Left H := { results := [], args := [] }

/-- 'proctorlaw15.MachineSerial': WHATEVER THE INPUT: true; the input reads as it did. -/
def machineSerialSpec : ChangeSpec := { name := "machineSerial", fn := fun _ => fun
  | [d] => { results := [.lit (.bool true)], args := [d] }
  | _ => none }
def machineSerialRow : OpenClaim := { program := "ytfodagidmdbmlaa", sum := "8fc4c6998f734cf22103b4c0b9ce0e3a7130d645cdb56428ffcdae10b50f28f4", func := "proctor/proctorlaw15.MachineSerial", spec := "machineSerial", unfollowed := true, recurses := true, apart := false }
def MachineSerialSaid : Prop := machineSerialRow.holds Try.pinned (OpenSpec.ofChange machineSerialSpec)

/-- ITS FALSE NEIGHBOUR: 'it returns false'. Refute it at one input. -/
def machineSerialWrong : ChangeSpec := { name := "machineSerial", fn := fun _ => fun
  | [d] => { results := [.lit (.bool false)], args := [d] }
  | _ => none }
def MachineSerialWrongFalsely : Prop := machineSerialRow.holds Try.pinned (OpenSpec.ofChange machineSerialWrong)

/-- 'proctorlaw15.MachinePlays': WHATEVER THE INPUT: true; the input reads as it did. -/
def machinePlaysSpec : ChangeSpec := { name := "machinePlays", fn := fun _ => fun
  | [d1, d2, d3] => { results := [.lit (.bool true)], args := [d1, d2, d3] }
  | _ => none }
def machinePlaysRow : OpenClaim := { program := "ytfodagidmdbmlaa", sum := "8fc4c6998f734cf22103b4c0b9ce0e3a7130d645cdb56428ffcdae10b50f28f4", func := "proctor/proctorlaw15.MachinePlays", spec := "machinePlays", unfollowed := true, recurses := true, apart := false }
def MachinePlaysSaid : Prop := machinePlaysRow.holds Try.pinned (OpenSpec.ofChange machinePlaysSpec)

/-- ITS FALSE NEIGHBOUR: 'it returns false'. Refute it at one input. -/
def machinePlaysWrong : ChangeSpec := { name := "machinePlays", fn := fun _ => fun
  | [d1, d2, d3] => { results := [.lit (.bool false)], args := [d1, d2, d3] }
  | _ => none }
def MachinePlaysWrongFalsely : Prop := machinePlaysRow.holds Try.pinned (OpenSpec.ofChange machinePlaysWrong)

/-- 'proctorlaw15.MachineOwn': WHATEVER THE INPUT: true; the input reads as it did. -/
def machineOwnSpec : ChangeSpec := { name := "machineOwn", fn := fun _ => fun
  | [d1, d2, d3, d4] => { results := [.lit (.bool true)], args := [d1, d2, d3, d4] }
  | _ => none }
def machineOwnRow : OpenClaim := { program := "ytfodagidmdbmlaa", sum := "8fc4c6998f734cf22103b4c0b9ce0e3a7130d645cdb56428ffcdae10b50f28f4", func := "proctor/proctorlaw15.MachineOwn", spec := "machineOwn", unfollowed := true, recurses := true, apart := false }
def MachineOwnSaid : Prop := machineOwnRow.holds Try.pinned (OpenSpec.ofChange machineOwnSpec)

/-- ITS FALSE NEIGHBOUR: 'it returns false'. Refute it at one input. -/
def machineOwnWrong : ChangeSpec := { name := "machineOwn", fn := fun _ => fun
  | [d1, d2, d3, d4] => { results := [.lit (.bool false)], args := [d1, d2, d3, d4] }
  | _ => none }
def MachineOwnWrongFalsely : Prop := machineOwnRow.holds Try.pinned (OpenSpec.ofChange machineOwnWrong)

/-- 'proctorlaw15.MachineSnapshot': WHATEVER THE INPUT: true; the input reads as it did. -/
def machineSnapshotSpec : ChangeSpec := { name := "machineSnapshot", fn := fun _ => fun
  | [d1, d2, d3] => { results := [.lit (.bool true)], args := [d1, d2, d3] }
  | _ => none }
def machineSnapshotRow : OpenClaim := { program := "ytfodagidmdbmlaa", sum := "8fc4c6998f734cf22103b4c0b9ce0e3a7130d645cdb56428ffcdae10b50f28f4", func := "proctor/proctorlaw15.MachineSnapshot", spec := "machineSnapshot", unfollowed := true, recurses := true, apart := false }
def MachineSnapshotSaid : Prop := machineSnapshotRow.holds Try.pinned (OpenSpec.ofChange machineSnapshotSpec)

/-- ITS FALSE NEIGHBOUR: 'it returns false'. Refute it at one input. -/
def machineSnapshotWrong : ChangeSpec := { name := "machineSnapshot", fn := fun _ => fun
  | [d1, d2, d3] => { results := [.lit (.bool false)], args := [d1, d2, d3] }
  | _ => none }
def MachineSnapshotWrongFalsely : Prop := machineSnapshotRow.holds Try.pinned (OpenSpec.ofChange machineSnapshotWrong)

/-- 'proctorlaw15.MachineFirst': WHATEVER THE INPUT: true; the input reads as it did. -/
def machineFirstSpec : ChangeSpec := { name := "machineFirst", fn := fun _ => fun
  | [d1, d2, d3] => { results := [.lit (.bool true)], args := [d1, d2, d3] }
  | _ => none }
def machineFirstRow : OpenClaim := { program := "ytfodagidmdbmlaa", sum := "8fc4c6998f734cf22103b4c0b9ce0e3a7130d645cdb56428ffcdae10b50f28f4", func := "proctor/proctorlaw15.MachineFirst", spec := "machineFirst", unfollowed := true, recurses := true, apart := false }
def MachineFirstSaid : Prop := machineFirstRow.holds Try.pinned (OpenSpec.ofChange machineFirstSpec)

/-- ITS FALSE NEIGHBOUR: 'it returns false'. Refute it at one input. -/
def machineFirstWrong : ChangeSpec := { name := "machineFirst", fn := fun _ => fun
  | [d1, d2, d3] => { results := [.lit (.bool false)], args := [d1, d2, d3] }
  | _ => none }
def MachineFirstWrongFalsely : Prop := machineFirstRow.holds Try.pinned (OpenSpec.ofChange machineFirstWrong)

/-- 'proctorlaw15.MachineAborted': WHATEVER THE INPUT: true; the input reads as it did. -/
def machineAbortedSpec : ChangeSpec := { name := "machineAborted", fn := fun _ => fun
  | [d1, d2] => { results := [.lit (.bool true)], args := [d1, d2] }
  | _ => none }
def machineAbortedRow : OpenClaim := { program := "ytfodagidmdbmlaa", sum := "8fc4c6998f734cf22103b4c0b9ce0e3a7130d645cdb56428ffcdae10b50f28f4", func := "proctor/proctorlaw15.MachineAborted", spec := "machineAborted", unfollowed := true, recurses := true, apart := false }
def MachineAbortedSaid : Prop := machineAbortedRow.holds Try.pinned (OpenSpec.ofChange machineAbortedSpec)

/-- ITS FALSE NEIGHBOUR: 'it returns false'. Refute it at one input. -/
def machineAbortedWrong : ChangeSpec := { name := "machineAborted", fn := fun _ => fun
  | [d1, d2] => { results := [.lit (.bool false)], args := [d1, d2] }
  | _ => none }
def MachineAbortedWrongFalsely : Prop := machineAbortedRow.holds Try.pinned (OpenSpec.ofChange machineAbortedWrong)

/-- 'proctorlaw15.MachineEmits': WHATEVER THE INPUT: true; the input reads as it did. -/
def machineEmitsSpec : ChangeSpec := { name := "machineEmits", fn := fun _ => fun
  | [d1, d2, d3] => { results := [.lit (.bool true)], args := [d1, d2, d3] }
  | _ => none }
def machineEmitsRow : OpenClaim := { program := "ytfodagidmdbmlaa", sum := "8fc4c6998f734cf22103b4c0b9ce0e3a7130d645cdb56428ffcdae10b50f28f4", func := "proctor/proctorlaw15.MachineEmits", spec := "machineEmits", unfollowed := true, recurses := true, apart := false }
def MachineEmitsSaid : Prop := machineEmitsRow.holds Try.pinned (OpenSpec.ofChange machineEmitsSpec)

/-- ITS FALSE NEIGHBOUR: 'it returns false'. Refute it at one input. -/
def machineEmitsWrong : ChangeSpec := { name := "machineEmits", fn := fun _ => fun
  | [d1, d2, d3] => { results := [.lit (.bool false)], args := [d1, d2, d3] }
  | _ => none }
def MachineEmitsWrongFalsely : Prop := machineEmitsRow.holds Try.pinned (OpenSpec.ofChange machineEmitsWrong)

/-- 'proctorlaw15.MachineClock': WHATEVER THE INPUT: true; the input reads as it did. -/
def machineClockSpec : ChangeSpec := { name := "machineClock", fn := fun _ => fun
  | [d1, d2, d3] => { results := [.lit (.bool true)], args := [d1, d2, d3] }
  | _ => none }
def machineClockRow : OpenClaim := { program := "ytfodagidmdbmlaa", sum := "8fc4c6998f734cf22103b4c0b9ce0e3a7130d645cdb56428ffcdae10b50f28f4", func := "proctor/proctorlaw15.MachineClock", spec := "machineClock", unfollowed := true, recurses := true, apart := false }
def MachineClockSaid : Prop := machineClockRow.holds Try.pinned (OpenSpec.ofChange machineClockSpec)

/-- ITS FALSE NEIGHBOUR: 'it returns false'. Refute it at one input. -/
def machineClockWrong : ChangeSpec := { name := "machineClock", fn := fun _ => fun
  | [d1, d2, d3] => { results := [.lit (.bool false)], args := [d1, d2, d3] }
  | _ => none }
def MachineClockWrongFalsely : Prop := machineClockRow.holds Try.pinned (OpenSpec.ofChange machineClockWrong)

/-- 'proctorlaw15.MachineMemory': WHATEVER THE INPUT: true; the input reads as it did. -/
def machineMemorySpec : ChangeSpec := { name := "machineMemory", fn := fun _ => fun
  | [d] => { results := [.lit (.bool true)], args := [d] }
  | _ => none }
def machineMemoryRow : OpenClaim := { program := "ytfodagidmdbmlaa", sum := "8fc4c6998f734cf22103b4c0b9ce0e3a7130d645cdb56428ffcdae10b50f28f4", func := "proctor/proctorlaw15.MachineMemory", spec := "machineMemory", unfollowed := true, recurses := true, apart := false }
def MachineMemorySaid : Prop := machineMemoryRow.holds Try.pinned (OpenSpec.ofChange machineMemorySpec)

/-- ITS FALSE NEIGHBOUR: 'it returns false'. Refute it at one input. -/
def machineMemoryWrong : ChangeSpec := { name := "machineMemory", fn := fun _ => fun
  | [d] => { results := [.lit (.bool false)], args := [d] }
  | _ => none }
def MachineMemoryWrongFalsely : Prop := machineMemoryRow.holds Try.pinned (OpenSpec.ofChange machineMemoryWrong)

/- THE SECOND FORM. 'bulk': how many values and letters a reading holds, each counted each time it is reached (what is shared counts as often as it is met; a slice's spare places count too). A statement '..UptoSaid' is the law's where the arguments, and the package variables that the reading takes, are together of bulk at most 1048576: NARROWER than '..Said'. Prove '..Said' where nothing that the law and all that it calls make is longer than what came in: it says more and counts as full. Else prove '..UptoSaid'. A law counts once. -/
mutual
def uptoBulk {H : Type} : DataW H → Nat
  | .lit (.string bytes) => bytes.length + 1
  | .lit _ => 1
  | .nil => 1
  | .ptr d => uptoBulk d + 1
  | .slice elems spare => uptoBulkAll elems + uptoBulkAll spare + 1
  | .agg parts => uptoBulkAll parts + 1
  | .iface _ d => uptoBulk d + 1
  | .map entries => uptoBulkEntries entries + 1
  | .held _ => 1
def uptoBulkAll {H : Type} : List (DataW H) → Nat
  | [] => 0
  | d :: r => uptoBulk d + uptoBulkAll r
def uptoBulkEntries {H : Type} : List (Lit × DataW H) → Nat
  | [] => 0
  | x :: r => uptoBulkEntry x + uptoBulkEntries r
def uptoBulkEntry {H : Type} : Lit × DataW H → Nat
  | (.string bytes, d) => bytes.length + uptoBulk d + 1
  | (_, d) => uptoBulk d + 1
 end
def uptoSmall : (H : Type) → List (DataW H) → Bool := fun _ ds => decide (uptoBulkAll ds ≤ 1048576)
def OpenSpec.upto (s : _root_.Go.ChangeSpec) : _root_.Go.OpenSpec := { _root_.Go.OpenSpec.ofChange s with cond := some uptoSmall }

/-- 'proctorlaw15.MachineSerial', WHERE WHAT IT READS IS OF BULK AT MOST 1048576: true; the input reads as it did. -/
def machineSerialUptoRow : OpenClaim := { program := "ytfodagidmdbmlaa", sum := "8fc4c6998f734cf22103b4c0b9ce0e3a7130d645cdb56428ffcdae10b50f28f4", func := "proctor/proctorlaw15.MachineSerial", spec := "machineSerial", unfollowed := true, recurses := true, apart := false, narrowed := true }
def MachineSerialUptoSaid : Prop := machineSerialUptoRow.holds Try.pinned (OpenSpec.upto machineSerialSpec)

/-- 'proctorlaw15.MachinePlays', WHERE WHAT IT READS IS OF BULK AT MOST 1048576: true; the input reads as it did. -/
def machinePlaysUptoRow : OpenClaim := { program := "ytfodagidmdbmlaa", sum := "8fc4c6998f734cf22103b4c0b9ce0e3a7130d645cdb56428ffcdae10b50f28f4", func := "proctor/proctorlaw15.MachinePlays", spec := "machinePlays", unfollowed := true, recurses := true, apart := false, narrowed := true }
def MachinePlaysUptoSaid : Prop := machinePlaysUptoRow.holds Try.pinned (OpenSpec.upto machinePlaysSpec)

/-- 'proctorlaw15.MachineOwn', WHERE WHAT IT READS IS OF BULK AT MOST 1048576: true; the input reads as it did. -/
def machineOwnUptoRow : OpenClaim := { program := "ytfodagidmdbmlaa", sum := "8fc4c6998f734cf22103b4c0b9ce0e3a7130d645cdb56428ffcdae10b50f28f4", func := "proctor/proctorlaw15.MachineOwn", spec := "machineOwn", unfollowed := true, recurses := true, apart := false, narrowed := true }
def MachineOwnUptoSaid : Prop := machineOwnUptoRow.holds Try.pinned (OpenSpec.upto machineOwnSpec)

/-- 'proctorlaw15.MachineSnapshot', WHERE WHAT IT READS IS OF BULK AT MOST 1048576: true; the input reads as it did. -/
def machineSnapshotUptoRow : OpenClaim := { program := "ytfodagidmdbmlaa", sum := "8fc4c6998f734cf22103b4c0b9ce0e3a7130d645cdb56428ffcdae10b50f28f4", func := "proctor/proctorlaw15.MachineSnapshot", spec := "machineSnapshot", unfollowed := true, recurses := true, apart := false, narrowed := true }
def MachineSnapshotUptoSaid : Prop := machineSnapshotUptoRow.holds Try.pinned (OpenSpec.upto machineSnapshotSpec)

/-- 'proctorlaw15.MachineFirst', WHERE WHAT IT READS IS OF BULK AT MOST 1048576: true; the input reads as it did. -/
def machineFirstUptoRow : OpenClaim := { program := "ytfodagidmdbmlaa", sum := "8fc4c6998f734cf22103b4c0b9ce0e3a7130d645cdb56428ffcdae10b50f28f4", func := "proctor/proctorlaw15.MachineFirst", spec := "machineFirst", unfollowed := true, recurses := true, apart := false, narrowed := true }
def MachineFirstUptoSaid : Prop := machineFirstUptoRow.holds Try.pinned (OpenSpec.upto machineFirstSpec)

/-- 'proctorlaw15.MachineAborted', WHERE WHAT IT READS IS OF BULK AT MOST 1048576: true; the input reads as it did. -/
def machineAbortedUptoRow : OpenClaim := { program := "ytfodagidmdbmlaa", sum := "8fc4c6998f734cf22103b4c0b9ce0e3a7130d645cdb56428ffcdae10b50f28f4", func := "proctor/proctorlaw15.MachineAborted", spec := "machineAborted", unfollowed := true, recurses := true, apart := false, narrowed := true }
def MachineAbortedUptoSaid : Prop := machineAbortedUptoRow.holds Try.pinned (OpenSpec.upto machineAbortedSpec)

/-- 'proctorlaw15.MachineEmits', WHERE WHAT IT READS IS OF BULK AT MOST 1048576: true; the input reads as it did. -/
def machineEmitsUptoRow : OpenClaim := { program := "ytfodagidmdbmlaa", sum := "8fc4c6998f734cf22103b4c0b9ce0e3a7130d645cdb56428ffcdae10b50f28f4", func := "proctor/proctorlaw15.MachineEmits", spec := "machineEmits", unfollowed := true, recurses := true, apart := false, narrowed := true }
def MachineEmitsUptoSaid : Prop := machineEmitsUptoRow.holds Try.pinned (OpenSpec.upto machineEmitsSpec)

/-- 'proctorlaw15.MachineClock', WHERE WHAT IT READS IS OF BULK AT MOST 1048576: true; the input reads as it did. -/
def machineClockUptoRow : OpenClaim := { program := "ytfodagidmdbmlaa", sum := "8fc4c6998f734cf22103b4c0b9ce0e3a7130d645cdb56428ffcdae10b50f28f4", func := "proctor/proctorlaw15.MachineClock", spec := "machineClock", unfollowed := true, recurses := true, apart := false, narrowed := true }
def MachineClockUptoSaid : Prop := machineClockUptoRow.holds Try.pinned (OpenSpec.upto machineClockSpec)

/-- 'proctorlaw15.MachineMemory', WHERE WHAT IT READS IS OF BULK AT MOST 1048576: true; the input reads as it did. -/
def machineMemoryUptoRow : OpenClaim := { program := "ytfodagidmdbmlaa", sum := "8fc4c6998f734cf22103b4c0b9ce0e3a7130d645cdb56428ffcdae10b50f28f4", func := "proctor/proctorlaw15.MachineMemory", spec := "machineMemory", unfollowed := true, recurses := true, apart := false, narrowed := true }
def MachineMemoryUptoSaid : Prop := machineMemoryUptoRow.holds Try.pinned (OpenSpec.upto machineMemorySpec)

end Rows
end Go.Proofs.Ytfodagidmdbmlaa
