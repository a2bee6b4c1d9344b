/-
  No cell of these rows narrows 'for every input' (looked for: loops, veiled, ifaces, maps, wideKeys, modest, calm, conditions, laid).
  DERIVED. THE GIVEN ROWS OF THIS SEAT. 6 by the template 'for every input the law returns true; each argument reads behind the call as it read before'; 0 by the template 'total and deterministic' (their statements: YtgcfpepaapdjoaaTotals.lean).
  GIVEN WITH THE SEED: the statements are not yours to turn. If you find one false, say at which input.
  Laid BY PROGRAM, IN A SANDBOX (cutbox-rows.mjs): the forced cells as the released guide's own fill.sh prints them over the translation 33367baac6cd2378… (all of the seat's roots in one cut). By AI agents, Wed Nov 11 2026. No macro, syntax, notation, axiom, sorry.
-/
import Derived.Test.YtgcfpepaapdjoaaChecked
import GoSem.Claim
import GoSem.ClaimJoined
import GoSem.ClaimMapViews
import Derived.JoinedTies
import Derived.KernelRfl
namespace Go.Proofs.Ytgcfpepaapdjoaa
/- THE CELL 'sum', in the pinned program and in every row, IS THE sha256 OF THE DUMP (.gsa) THAT YtgcfpepaapdjoaaProg.lean LOADS. Nothing in Lean hashes anything: it is a label: what it is worth is what the hold of that sum in a sandbox is worth. -/
noncomputable def Try.pinned : Pinned := { name := "ytgcfpepaapdjoaa", sum := "33367baac6cd2378ff7bd91f46252957aec056973bc8637ab61b38cd758602d1", checked := Try.checked }
namespace Rows
def none {H : Type} : Left H := { results := [], args := [] }

/-- 'proctorlaw11.LosersTies': WHATEVER THE INPUT: true; the input reads as it did. -/
def losersTiesSpec : ChangeSpec := { name := "losersTies", fn := fun _ => fun
  | [d] => { results := [.lit (.bool true)], args := [d] }
  | _ => none }
def losersTiesRow : OpenClaim := { program := "ytgcfpepaapdjoaa", sum := "33367baac6cd2378ff7bd91f46252957aec056973bc8637ab61b38cd758602d1", func := "proctor/proctorlaw11.LosersTies", spec := "losersTies", recurses := true, apart := false }
def LosersTiesSaid : Prop := losersTiesRow.holds Try.pinned (OpenSpec.ofChange losersTiesSpec)

/-- ITS FALSE NEIGHBOUR: 'it returns false'. Refute it at one input. -/
def losersTiesWrong : ChangeSpec := { name := "losersTies", fn := fun _ => fun
  | [d] => { results := [.lit (.bool false)], args := [d] }
  | _ => none }
def LosersTiesWrongFalsely : Prop := losersTiesRow.holds Try.pinned (OpenSpec.ofChange losersTiesWrong)

/-- 'proctorlaw11.LosersPlays': WHATEVER THE INPUT: true; the input reads as it did. -/
def losersPlaysSpec : ChangeSpec := { name := "losersPlays", fn := fun _ => fun
  | [d1, d2, d3] => { results := [.lit (.bool true)], args := [d1, d2, d3] }
  | _ => none }
def losersPlaysRow : OpenClaim := { program := "ytgcfpepaapdjoaa", sum := "33367baac6cd2378ff7bd91f46252957aec056973bc8637ab61b38cd758602d1", func := "proctor/proctorlaw11.LosersPlays", spec := "losersPlays", recurses := true, apart := false }
def LosersPlaysSaid : Prop := losersPlaysRow.holds Try.pinned (OpenSpec.ofChange losersPlaysSpec)

/-- ITS FALSE NEIGHBOUR: 'it returns false'. Refute it at one input. -/
def losersPlaysWrong : ChangeSpec := { name := "losersPlays", fn := fun _ => fun
  | [d1, d2, d3] => { results := [.lit (.bool false)], args := [d1, d2, d3] }
  | _ => none }
def LosersPlaysWrongFalsely : Prop := losersPlaysRow.holds Try.pinned (OpenSpec.ofChange losersPlaysWrong)

/-- 'proctorlaw11.LosersDry': WHATEVER THE INPUT: true; the input reads as it did. -/
def losersDrySpec : ChangeSpec := { name := "losersDry", fn := fun _ => fun
  | [d1, d2, d3] => { results := [.lit (.bool true)], args := [d1, d2, d3] }
  | _ => none }
def losersDryRow : OpenClaim := { program := "ytgcfpepaapdjoaa", sum := "33367baac6cd2378ff7bd91f46252957aec056973bc8637ab61b38cd758602d1", func := "proctor/proctorlaw11.LosersDry", spec := "losersDry", recurses := true, apart := false }
def LosersDrySaid : Prop := losersDryRow.holds Try.pinned (OpenSpec.ofChange losersDrySpec)

/-- ITS FALSE NEIGHBOUR: 'it returns false'. Refute it at one input. -/
def losersDryWrong : ChangeSpec := { name := "losersDry", fn := fun _ => fun
  | [d1, d2, d3] => { results := [.lit (.bool false)], args := [d1, d2, d3] }
  | _ => none }
def LosersDryWrongFalsely : Prop := losersDryRow.holds Try.pinned (OpenSpec.ofChange losersDryWrong)

/-- 'proctorlaw11.LosersMerges': WHATEVER THE INPUT: true; the input reads as it did. -/
def losersMergesSpec : ChangeSpec := { name := "losersMerges", fn := fun _ => fun
  | [d1, d2] => { results := [.lit (.bool true)], args := [d1, d2] }
  | _ => none }
def losersMergesRow : OpenClaim := { program := "ytgcfpepaapdjoaa", sum := "33367baac6cd2378ff7bd91f46252957aec056973bc8637ab61b38cd758602d1", func := "proctor/proctorlaw11.LosersMerges", spec := "losersMerges", recurses := true, apart := false }
def LosersMergesSaid : Prop := losersMergesRow.holds Try.pinned (OpenSpec.ofChange losersMergesSpec)

/-- ITS FALSE NEIGHBOUR: 'it returns false'. Refute it at one input. -/
def losersMergesWrong : ChangeSpec := { name := "losersMerges", fn := fun _ => fun
  | [d1, d2] => { results := [.lit (.bool false)], args := [d1, d2] }
  | _ => none }
def LosersMergesWrongFalsely : Prop := losersMergesRow.holds Try.pinned (OpenSpec.ofChange losersMergesWrong)

/-- 'proctorlaw11.LosersCuts': WHATEVER THE INPUT: true; the input reads as it did. -/
def losersCutsSpec : ChangeSpec := { name := "losersCuts", fn := fun _ => fun
  | [d1, d2] => { results := [.lit (.bool true)], args := [d1, d2] }
  | _ => none }
def losersCutsRow : OpenClaim := { program := "ytgcfpepaapdjoaa", sum := "33367baac6cd2378ff7bd91f46252957aec056973bc8637ab61b38cd758602d1", func := "proctor/proctorlaw11.LosersCuts", spec := "losersCuts", recurses := true, apart := false }
def LosersCutsSaid : Prop := losersCutsRow.holds Try.pinned (OpenSpec.ofChange losersCutsSpec)

/-- ITS FALSE NEIGHBOUR: 'it returns false'. Refute it at one input. -/
def losersCutsWrong : ChangeSpec := { name := "losersCuts", fn := fun _ => fun
  | [d1, d2] => { results := [.lit (.bool false)], args := [d1, d2] }
  | _ => none }
def LosersCutsWrongFalsely : Prop := losersCutsRow.holds Try.pinned (OpenSpec.ofChange losersCutsWrong)

/-- 'proctorlaw11.LosersMemory': WHATEVER THE INPUT: true; the input reads as it did. -/
def losersMemorySpec : ChangeSpec := { name := "losersMemory", fn := fun _ => fun
  | [d] => { results := [.lit (.bool true)], args := [d] }
  | _ => none }
def losersMemoryRow : OpenClaim := { program := "ytgcfpepaapdjoaa", sum := "33367baac6cd2378ff7bd91f46252957aec056973bc8637ab61b38cd758602d1", func := "proctor/proctorlaw11.LosersMemory", spec := "losersMemory", recurses := true, apart := false }
def LosersMemorySaid : Prop := losersMemoryRow.holds Try.pinned (OpenSpec.ofChange losersMemorySpec)

/-- ITS FALSE NEIGHBOUR: 'it returns false'. Refute it at one input. -/
def losersMemoryWrong : ChangeSpec := { name := "losersMemory", fn := fun _ => fun
  | [d] => { results := [.lit (.bool false)], args := [d] }
  | _ => none }
def LosersMemoryWrongFalsely : Prop := losersMemoryRow.holds Try.pinned (OpenSpec.ofChange losersMemoryWrong)

/- THE SECOND FORM. 'bulk': how many values and letters a reading holds, each counted each time it is reached (what is shared counts as often as it is met; a slice's spare places count too). A statement '..UptoSaid' is the law's where the arguments, and the package variables that the reading takes, are together of bulk at most 1048576: NARROWER than '..Said'. Prove '..Said' where nothing that the law and all that it calls make is longer than what came in: it says more and counts as full. Else prove '..UptoSaid'. A law counts once. -/
mutual
def uptoBulk {H : Type} : DataW H → Nat
  | .lit (.string bytes) => bytes.length + 1
  | .lit _ => 1
  | .nil => 1
  | .ptr d => uptoBulk d + 1
  | .slice elems spare => uptoBulkAll elems + uptoBulkAll spare + 1
  | .agg parts => uptoBulkAll parts + 1
  | .iface _ d => uptoBulk d + 1
  | .map entries => uptoBulkEntries entries + 1
  | .held _ => 1
def uptoBulkAll {H : Type} : List (DataW H) → Nat
  | [] => 0
  | d :: r => uptoBulk d + uptoBulkAll r
def uptoBulkEntries {H : Type} : List (Lit × DataW H) → Nat
  | [] => 0
  | x :: r => uptoBulkEntry x + uptoBulkEntries r
def uptoBulkEntry {H : Type} : Lit × DataW H → Nat
  | (.string bytes, d) => bytes.length + uptoBulk d + 1
  | (_, d) => uptoBulk d + 1
 end
def uptoSmall : (H : Type) → List (DataW H) → Bool := fun _ ds => decide (uptoBulkAll ds ≤ 1048576)
def OpenSpec.upto (s : _root_.Go.ChangeSpec) : _root_.Go.OpenSpec := { _root_.Go.OpenSpec.ofChange s with cond := some uptoSmall }

/-- 'proctorlaw11.LosersTies', WHERE WHAT IT READS IS OF BULK AT MOST 1048576: true; the input reads as it did. -/
def losersTiesUptoRow : OpenClaim := { program := "ytgcfpepaapdjoaa", sum := "33367baac6cd2378ff7bd91f46252957aec056973bc8637ab61b38cd758602d1", func := "proctor/proctorlaw11.LosersTies", spec := "losersTies", recurses := true, apart := false, narrowed := true }
def LosersTiesUptoSaid : Prop := losersTiesUptoRow.holds Try.pinned (OpenSpec.upto losersTiesSpec)

/-- 'proctorlaw11.LosersPlays', WHERE WHAT IT READS IS OF BULK AT MOST 1048576: true; the input reads as it did. -/
def losersPlaysUptoRow : OpenClaim := { program := "ytgcfpepaapdjoaa", sum := "33367baac6cd2378ff7bd91f46252957aec056973bc8637ab61b38cd758602d1", func := "proctor/proctorlaw11.LosersPlays", spec := "losersPlays", recurses := true, apart := false, narrowed := true }
def LosersPlaysUptoSaid : Prop := losersPlaysUptoRow.holds Try.pinned (OpenSpec.upto losersPlaysSpec)

/-- 'proctorlaw11.LosersDry', WHERE WHAT IT READS IS OF BULK AT MOST 1048576: true; the input reads as it did. -/
def losersDryUptoRow : OpenClaim := { program := "ytgcfpepaapdjoaa", sum := "33367baac6cd2378ff7bd91f46252957aec056973bc8637ab61b38cd758602d1", func := "proctor/proctorlaw11.LosersDry", spec := "losersDry", recurses := true, apart := false, narrowed := true }
def LosersDryUptoSaid : Prop := losersDryUptoRow.holds Try.pinned (OpenSpec.upto losersDrySpec)

/-- 'proctorlaw11.LosersMerges', WHERE WHAT IT READS IS OF BULK AT MOST 1048576: true; the input reads as it did. -/
def losersMergesUptoRow : OpenClaim := { program := "ytgcfpepaapdjoaa", sum := "33367baac6cd2378ff7bd91f46252957aec056973bc8637ab61b38cd758602d1", func := "proctor/proctorlaw11.LosersMerges", spec := "losersMerges", recurses := true, apart := false, narrowed := true }
def LosersMergesUptoSaid : Prop := losersMergesUptoRow.holds Try.pinned (OpenSpec.upto losersMergesSpec)

/-- 'proctorlaw11.LosersCuts', WHERE WHAT IT READS IS OF BULK AT MOST 1048576: true; the input reads as it did. -/
def losersCutsUptoRow : OpenClaim := { program := "ytgcfpepaapdjoaa", sum := "33367baac6cd2378ff7bd91f46252957aec056973bc8637ab61b38cd758602d1", func := "proctor/proctorlaw11.LosersCuts", spec := "losersCuts", recurses := true, apart := false, narrowed := true }
def LosersCutsUptoSaid : Prop := losersCutsUptoRow.holds Try.pinned (OpenSpec.upto losersCutsSpec)

/-- 'proctorlaw11.LosersMemory', WHERE WHAT IT READS IS OF BULK AT MOST 1048576: true; the input reads as it did. -/
def losersMemoryUptoRow : OpenClaim := { program := "ytgcfpepaapdjoaa", sum := "33367baac6cd2378ff7bd91f46252957aec056973bc8637ab61b38cd758602d1", func := "proctor/proctorlaw11.LosersMemory", spec := "losersMemory", recurses := true, apart := false, narrowed := true }
def LosersMemoryUptoSaid : Prop := losersMemoryUptoRow.holds Try.pinned (OpenSpec.upto losersMemorySpec)

end Rows
end Go.Proofs.Ytgcfpepaapdjoaa
