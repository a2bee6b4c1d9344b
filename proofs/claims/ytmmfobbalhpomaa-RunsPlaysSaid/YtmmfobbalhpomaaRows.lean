/-
  No cell of these rows narrows 'for every input' (looked for: loops, veiled, ifaces, maps, wideKeys, modest, calm, conditions, laid).
  DERIVED. THE GIVEN ROWS OF THIS SEAT. 5 by the template 'for every input the law returns true; each argument reads behind the call as it read before'; 0 by the template 'total and deterministic' (their statements: YtmmfobbalhpomaaTotals.lean).
  GIVEN WITH THE SEED: the statements are not yours to turn. If you find one false, say at which input.
  Laid BY PROGRAM, IN A SANDBOX (cutbox-rows.mjs): the forced cells as the released guide's own fill.sh prints them over the translation 44d545b6c76a5690… (all of the seat's roots in one cut). By AI agents, Wed Nov 11 2026. No macro, syntax, notation, axiom, sorry.
-/
import Derived.Test.YtmmfobbalhpomaaChecked
import GoSem.Claim
import GoSem.ClaimJoined
import GoSem.ClaimMapViews
import Derived.JoinedTies
import Derived.KernelRfl
namespace Go.Proofs.Ytmmfobbalhpomaa
/- THE CELL 'sum', in the pinned program and in every row, IS THE sha256 OF THE DUMP (.gsa) THAT YtmmfobbalhpomaaProg.lean LOADS. Nothing in Lean hashes anything: it is a label: what it is worth is what the hold of that sum in a sandbox is worth. -/
noncomputable def Try.pinned : Pinned := { name := "ytmmfobbalhpomaa", sum := "44d545b6c76a5690017b74e2bd0e3d30fec3c835adde52bd1f5a63191f7901d7", checked := Try.checked }
namespace Rows
def none {H : Type} : Left H := { results := [], args := [] }

/-- 'proctorlaw10.RunsStable': WHATEVER THE INPUT: true; the input reads as it did. -/
def runsStableSpec : ChangeSpec := { name := "runsStable", fn := fun _ => fun
  | [d] => { results := [.lit (.bool true)], args := [d] }
  | _ => none }
def runsStableRow : OpenClaim := { program := "ytmmfobbalhpomaa", sum := "44d545b6c76a5690017b74e2bd0e3d30fec3c835adde52bd1f5a63191f7901d7", func := "proctor/proctorlaw10.RunsStable", spec := "runsStable", unfollowed := true, recurses := true, apart := false }
def RunsStableSaid : Prop := runsStableRow.holds Try.pinned (OpenSpec.ofChange runsStableSpec)

/-- ITS FALSE NEIGHBOUR: 'it returns false'. Refute it at one input. -/
def runsStableWrong : ChangeSpec := { name := "runsStable", fn := fun _ => fun
  | [d] => { results := [.lit (.bool false)], args := [d] }
  | _ => none }
def RunsStableWrongFalsely : Prop := runsStableRow.holds Try.pinned (OpenSpec.ofChange runsStableWrong)

/-- 'proctorlaw10.RunsPlays': WHATEVER THE INPUT: true; the input reads as it did. -/
def runsPlaysSpec : ChangeSpec := { name := "runsPlays", fn := fun _ => fun
  | [d1, d2, d3] => { results := [.lit (.bool true)], args := [d1, d2, d3] }
  | _ => none }
def runsPlaysRow : OpenClaim := { program := "ytmmfobbalhpomaa", sum := "44d545b6c76a5690017b74e2bd0e3d30fec3c835adde52bd1f5a63191f7901d7", func := "proctor/proctorlaw10.RunsPlays", spec := "runsPlays", unfollowed := true, recurses := true, apart := false }
def RunsPlaysSaid : Prop := runsPlaysRow.holds Try.pinned (OpenSpec.ofChange runsPlaysSpec)

/-- ITS FALSE NEIGHBOUR: 'it returns false'. Refute it at one input. -/
def runsPlaysWrong : ChangeSpec := { name := "runsPlays", fn := fun _ => fun
  | [d1, d2, d3] => { results := [.lit (.bool false)], args := [d1, d2, d3] }
  | _ => none }
def RunsPlaysWrongFalsely : Prop := runsPlaysRow.holds Try.pinned (OpenSpec.ofChange runsPlaysWrong)

/-- 'proctorlaw10.RunsBudget': WHATEVER THE INPUT: true; the input reads as it did. -/
def runsBudgetSpec : ChangeSpec := { name := "runsBudget", fn := fun _ => fun
  | [d1, d2] => { results := [.lit (.bool true)], args := [d1, d2] }
  | _ => none }
def runsBudgetRow : OpenClaim := { program := "ytmmfobbalhpomaa", sum := "44d545b6c76a5690017b74e2bd0e3d30fec3c835adde52bd1f5a63191f7901d7", func := "proctor/proctorlaw10.RunsBudget", spec := "runsBudget", unfollowed := true, recurses := true, apart := false }
def RunsBudgetSaid : Prop := runsBudgetRow.holds Try.pinned (OpenSpec.ofChange runsBudgetSpec)

/-- ITS FALSE NEIGHBOUR: 'it returns false'. Refute it at one input. -/
def runsBudgetWrong : ChangeSpec := { name := "runsBudget", fn := fun _ => fun
  | [d1, d2] => { results := [.lit (.bool false)], args := [d1, d2] }
  | _ => none }
def RunsBudgetWrongFalsely : Prop := runsBudgetRow.holds Try.pinned (OpenSpec.ofChange runsBudgetWrong)

/-- 'proctorlaw10.RunsKeeps': WHATEVER THE INPUT: true; the input reads as it did. -/
def runsKeepsSpec : ChangeSpec := { name := "runsKeeps", fn := fun _ => fun
  | [d1, d2] => { results := [.lit (.bool true)], args := [d1, d2] }
  | _ => none }
def runsKeepsRow : OpenClaim := { program := "ytmmfobbalhpomaa", sum := "44d545b6c76a5690017b74e2bd0e3d30fec3c835adde52bd1f5a63191f7901d7", func := "proctor/proctorlaw10.RunsKeeps", spec := "runsKeeps", unfollowed := true, recurses := true, apart := false }
def RunsKeepsSaid : Prop := runsKeepsRow.holds Try.pinned (OpenSpec.ofChange runsKeepsSpec)

/-- ITS FALSE NEIGHBOUR: 'it returns false'. Refute it at one input. -/
def runsKeepsWrong : ChangeSpec := { name := "runsKeeps", fn := fun _ => fun
  | [d1, d2] => { results := [.lit (.bool false)], args := [d1, d2] }
  | _ => none }
def RunsKeepsWrongFalsely : Prop := runsKeepsRow.holds Try.pinned (OpenSpec.ofChange runsKeepsWrong)

/-- 'proctorlaw10.RunsMemory': WHATEVER THE INPUT: true; the input reads as it did. -/
def runsMemorySpec : ChangeSpec := { name := "runsMemory", fn := fun _ => fun
  | [d] => { results := [.lit (.bool true)], args := [d] }
  | _ => none }
def runsMemoryRow : OpenClaim := { program := "ytmmfobbalhpomaa", sum := "44d545b6c76a5690017b74e2bd0e3d30fec3c835adde52bd1f5a63191f7901d7", func := "proctor/proctorlaw10.RunsMemory", spec := "runsMemory", unfollowed := true, recurses := true, apart := false }
def RunsMemorySaid : Prop := runsMemoryRow.holds Try.pinned (OpenSpec.ofChange runsMemorySpec)

/-- ITS FALSE NEIGHBOUR: 'it returns false'. Refute it at one input. -/
def runsMemoryWrong : ChangeSpec := { name := "runsMemory", fn := fun _ => fun
  | [d] => { results := [.lit (.bool false)], args := [d] }
  | _ => none }
def RunsMemoryWrongFalsely : Prop := runsMemoryRow.holds Try.pinned (OpenSpec.ofChange runsMemoryWrong)

/- THE SECOND FORM. 'bulk': how many values and letters a reading holds, each counted each time it is reached (what is shared counts as often as it is met; a slice's spare places count too). A statement '..UptoSaid' is the law's where the arguments, and the package variables that the reading takes, are together of bulk at most 1048576: NARROWER than '..Said'. Prove '..Said' where nothing that the law and all that it calls make is longer than what came in: it says more and counts as full. Else prove '..UptoSaid'. A law counts once. -/
mutual
def uptoBulk {H : Type} : DataW H → Nat
  | .lit (.string bytes) => bytes.length + 1
  | .lit _ => 1
  | .nil => 1
  | .ptr d => uptoBulk d + 1
  | .slice elems spare => uptoBulkAll elems + uptoBulkAll spare + 1
  | .agg parts => uptoBulkAll parts + 1
  | .iface _ d => uptoBulk d + 1
  | .map entries => uptoBulkEntries entries + 1
  | .held _ => 1
def uptoBulkAll {H : Type} : List (DataW H) → Nat
  | [] => 0
  | d :: r => uptoBulk d + uptoBulkAll r
def uptoBulkEntries {H : Type} : List (Lit × DataW H) → Nat
  | [] => 0
  | x :: r => uptoBulkEntry x + uptoBulkEntries r
def uptoBulkEntry {H : Type} : Lit × DataW H → Nat
  | (.string bytes, d) => bytes.length + uptoBulk d + 1
  | (_, d) => uptoBulk d + 1
 end
def uptoSmall : (H : Type) → List (DataW H) → Bool := fun _ ds => decide (uptoBulkAll ds ≤ 1048576)
def OpenSpec.upto (s : _root_.Go.ChangeSpec) : _root_.Go.OpenSpec := { _root_.Go.OpenSpec.ofChange s with cond := some uptoSmall }

/-- 'proctorlaw10.RunsStable', WHERE WHAT IT READS IS OF BULK AT MOST 1048576: true; the input reads as it did. -/
def runsStableUptoRow : OpenClaim := { program := "ytmmfobbalhpomaa", sum := "44d545b6c76a5690017b74e2bd0e3d30fec3c835adde52bd1f5a63191f7901d7", func := "proctor/proctorlaw10.RunsStable", spec := "runsStable", unfollowed := true, recurses := true, apart := false, narrowed := true }
def RunsStableUptoSaid : Prop := runsStableUptoRow.holds Try.pinned (OpenSpec.upto runsStableSpec)

/-- 'proctorlaw10.RunsPlays', WHERE WHAT IT READS IS OF BULK AT MOST 1048576: true; the input reads as it did. -/
def runsPlaysUptoRow : OpenClaim := { program := "ytmmfobbalhpomaa", sum := "44d545b6c76a5690017b74e2bd0e3d30fec3c835adde52bd1f5a63191f7901d7", func := "proctor/proctorlaw10.RunsPlays", spec := "runsPlays", unfollowed := true, recurses := true, apart := false, narrowed := true }
def RunsPlaysUptoSaid : Prop := runsPlaysUptoRow.holds Try.pinned (OpenSpec.upto runsPlaysSpec)

/-- 'proctorlaw10.RunsBudget', WHERE WHAT IT READS IS OF BULK AT MOST 1048576: true; the input reads as it did. -/
def runsBudgetUptoRow : OpenClaim := { program := "ytmmfobbalhpomaa", sum := "44d545b6c76a5690017b74e2bd0e3d30fec3c835adde52bd1f5a63191f7901d7", func := "proctor/proctorlaw10.RunsBudget", spec := "runsBudget", unfollowed := true, recurses := true, apart := false, narrowed := true }
def RunsBudgetUptoSaid : Prop := runsBudgetUptoRow.holds Try.pinned (OpenSpec.upto runsBudgetSpec)

/-- 'proctorlaw10.RunsKeeps', WHERE WHAT IT READS IS OF BULK AT MOST 1048576: true; the input reads as it did. -/
def runsKeepsUptoRow : OpenClaim := { program := "ytmmfobbalhpomaa", sum := "44d545b6c76a5690017b74e2bd0e3d30fec3c835adde52bd1f5a63191f7901d7", func := "proctor/proctorlaw10.RunsKeeps", spec := "runsKeeps", unfollowed := true, recurses := true, apart := false, narrowed := true }
def RunsKeepsUptoSaid : Prop := runsKeepsUptoRow.holds Try.pinned (OpenSpec.upto runsKeepsSpec)

/-- 'proctorlaw10.RunsMemory', WHERE WHAT IT READS IS OF BULK AT MOST 1048576: true; the input reads as it did. -/
def runsMemoryUptoRow : OpenClaim := { program := "ytmmfobbalhpomaa", sum := "44d545b6c76a5690017b74e2bd0e3d30fec3c835adde52bd1f5a63191f7901d7", func := "proctor/proctorlaw10.RunsMemory", spec := "runsMemory", unfollowed := true, recurses := true, apart := false, narrowed := true }
def RunsMemoryUptoSaid : Prop := runsMemoryUptoRow.holds Try.pinned (OpenSpec.upto runsMemorySpec)

end Rows
end Go.Proofs.Ytmmfobbalhpomaa
