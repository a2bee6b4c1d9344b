/-
  No cell of these rows narrows 'for every input' (looked for: loops, veiled, ifaces, maps, wideKeys, modest, calm, conditions, laid).
  DERIVED. THE GIVEN ROWS OF THIS SEAT. 6 by the template 'for every input the law returns true; each argument reads behind the call as it read before'; 0 by the template 'total and deterministic' (their statements: YtkbnfnfjmofcmaaTotals.lean).
  GIVEN WITH THE SEED: the statements are not yours to turn. If you find one false, say at which input.
  Laid BY PROGRAM, IN A SANDBOX (cutbox-rows.mjs): the forced cells as the released guide's own fill.sh prints them over the translation fddb6e514dbe45a8… (all of the seat's roots in one cut). By AI agents, Wed Nov 11 2026. No macro, syntax, notation, axiom, sorry.
-/
import Derived.Test.YtkbnfnfjmofcmaaChecked
import GoSem.Claim
import GoSem.ClaimJoined
import GoSem.ClaimMapViews
import Derived.JoinedTies
import Derived.KernelRfl
namespace Go.Proofs.Ytkbnfnfjmofcmaa
/- THE CELL 'sum', in the pinned program and in every row, IS THE sha256 OF THE DUMP (.gsa) THAT YtkbnfnfjmofcmaaProg.lean LOADS. Nothing in Lean hashes anything: it is a label: what it is worth is what the hold of that sum in a sandbox is worth. -/
noncomputable def Try.pinned : Pinned := { name := "ytkbnfnfjmofcmaa", sum := "fddb6e514dbe45a85fec08eb19a2a3e7682fa7ad3a4f18c69295befb615e5019", checked := Try.checked }
namespace Rows
def none {H : Type} : Left H := { results := [], args := [] }

/-- 'proctorlaw13.ChainSeen': WHATEVER THE INPUT: true; the input reads as it did. -/
def chainSeenSpec : ChangeSpec := { name := "chainSeen", fn := fun _ => fun
  | [d1, d2, d3] => { results := [.lit (.bool true)], args := [d1, d2, d3] }
  | _ => none }
def chainSeenRow : OpenClaim := { program := "ytkbnfnfjmofcmaa", sum := "fddb6e514dbe45a85fec08eb19a2a3e7682fa7ad3a4f18c69295befb615e5019", func := "proctor/proctorlaw13.ChainSeen", spec := "chainSeen", unfollowed := true, recurses := true, apart := false }
def ChainSeenSaid : Prop := chainSeenRow.holds Try.pinned (OpenSpec.ofChange chainSeenSpec)

/-- ITS FALSE NEIGHBOUR: 'it returns false'. Refute it at one input. -/
def chainSeenWrong : ChangeSpec := { name := "chainSeen", fn := fun _ => fun
  | [d1, d2, d3] => { results := [.lit (.bool false)], args := [d1, d2, d3] }
  | _ => none }
def ChainSeenWrongFalsely : Prop := chainSeenRow.holds Try.pinned (OpenSpec.ofChange chainSeenWrong)

/-- 'proctorlaw13.ChainApart': WHATEVER THE INPUT: true; the input reads as it did. -/
def chainApartSpec : ChangeSpec := { name := "chainApart", fn := fun _ => fun
  | [d1, d2, d3, d4] => { results := [.lit (.bool true)], args := [d1, d2, d3, d4] }
  | _ => none }
def chainApartRow : OpenClaim := { program := "ytkbnfnfjmofcmaa", sum := "fddb6e514dbe45a85fec08eb19a2a3e7682fa7ad3a4f18c69295befb615e5019", func := "proctor/proctorlaw13.ChainApart", spec := "chainApart", unfollowed := true, recurses := true, apart := false }
def ChainApartSaid : Prop := chainApartRow.holds Try.pinned (OpenSpec.ofChange chainApartSpec)

/-- ITS FALSE NEIGHBOUR: 'it returns false'. Refute it at one input. -/
def chainApartWrong : ChangeSpec := { name := "chainApart", fn := fun _ => fun
  | [d1, d2, d3, d4] => { results := [.lit (.bool false)], args := [d1, d2, d3, d4] }
  | _ => none }
def ChainApartWrongFalsely : Prop := chainApartRow.holds Try.pinned (OpenSpec.ofChange chainApartWrong)

/-- 'proctorlaw13.ChainMemory': WHATEVER THE INPUT: true; the input reads as it did. -/
def chainMemorySpec : ChangeSpec := { name := "chainMemory", fn := fun _ => fun
  | [d] => { results := [.lit (.bool true)], args := [d] }
  | _ => none }
def chainMemoryRow : OpenClaim := { program := "ytkbnfnfjmofcmaa", sum := "fddb6e514dbe45a85fec08eb19a2a3e7682fa7ad3a4f18c69295befb615e5019", func := "proctor/proctorlaw13.ChainMemory", spec := "chainMemory", unfollowed := true, recurses := true, apart := false }
def ChainMemorySaid : Prop := chainMemoryRow.holds Try.pinned (OpenSpec.ofChange chainMemorySpec)

/-- ITS FALSE NEIGHBOUR: 'it returns false'. Refute it at one input. -/
def chainMemoryWrong : ChangeSpec := { name := "chainMemory", fn := fun _ => fun
  | [d] => { results := [.lit (.bool false)], args := [d] }
  | _ => none }
def ChainMemoryWrongFalsely : Prop := chainMemoryRow.holds Try.pinned (OpenSpec.ofChange chainMemoryWrong)

/-- 'proctorlaw13.ChainPlays': WHATEVER THE INPUT: true; the input reads as it did. -/
def chainPlaysSpec : ChangeSpec := { name := "chainPlays", fn := fun _ => fun
  | [d] => { results := [.lit (.bool true)], args := [d] }
  | _ => none }
def chainPlaysRow : OpenClaim := { program := "ytkbnfnfjmofcmaa", sum := "fddb6e514dbe45a85fec08eb19a2a3e7682fa7ad3a4f18c69295befb615e5019", func := "proctor/proctorlaw13.ChainPlays", spec := "chainPlays", unfollowed := true, recurses := true, apart := false }
def ChainPlaysSaid : Prop := chainPlaysRow.holds Try.pinned (OpenSpec.ofChange chainPlaysSpec)

/-- ITS FALSE NEIGHBOUR: 'it returns false'. Refute it at one input. -/
def chainPlaysWrong : ChangeSpec := { name := "chainPlays", fn := fun _ => fun
  | [d] => { results := [.lit (.bool false)], args := [d] }
  | _ => none }
def ChainPlaysWrongFalsely : Prop := chainPlaysRow.holds Try.pinned (OpenSpec.ofChange chainPlaysWrong)

/-- 'proctorlaw13.ChainPrunes': WHATEVER THE INPUT: true; the input reads as it did. -/
def chainPrunesSpec : ChangeSpec := { name := "chainPrunes", fn := fun _ => fun
  | [d1, d2, d3, d4] => { results := [.lit (.bool true)], args := [d1, d2, d3, d4] }
  | _ => none }
def chainPrunesRow : OpenClaim := { program := "ytkbnfnfjmofcmaa", sum := "fddb6e514dbe45a85fec08eb19a2a3e7682fa7ad3a4f18c69295befb615e5019", func := "proctor/proctorlaw13.ChainPrunes", spec := "chainPrunes", unfollowed := true, recurses := true, apart := false }
def ChainPrunesSaid : Prop := chainPrunesRow.holds Try.pinned (OpenSpec.ofChange chainPrunesSpec)

/-- ITS FALSE NEIGHBOUR: 'it returns false'. Refute it at one input. -/
def chainPrunesWrong : ChangeSpec := { name := "chainPrunes", fn := fun _ => fun
  | [d1, d2, d3, d4] => { results := [.lit (.bool false)], args := [d1, d2, d3, d4] }
  | _ => none }
def ChainPrunesWrongFalsely : Prop := chainPrunesRow.holds Try.pinned (OpenSpec.ofChange chainPrunesWrong)

/-- 'proctorlaw13.ChainRefuses': WHATEVER THE INPUT: true; the input reads as it did. -/
def chainRefusesSpec : ChangeSpec := { name := "chainRefuses", fn := fun _ => fun
  | [d1, d2, d3] => { results := [.lit (.bool true)], args := [d1, d2, d3] }
  | _ => none }
def chainRefusesRow : OpenClaim := { program := "ytkbnfnfjmofcmaa", sum := "fddb6e514dbe45a85fec08eb19a2a3e7682fa7ad3a4f18c69295befb615e5019", func := "proctor/proctorlaw13.ChainRefuses", spec := "chainRefuses", unfollowed := true, recurses := true, apart := false }
def ChainRefusesSaid : Prop := chainRefusesRow.holds Try.pinned (OpenSpec.ofChange chainRefusesSpec)

/-- ITS FALSE NEIGHBOUR: 'it returns false'. Refute it at one input. -/
def chainRefusesWrong : ChangeSpec := { name := "chainRefuses", fn := fun _ => fun
  | [d1, d2, d3] => { results := [.lit (.bool false)], args := [d1, d2, d3] }
  | _ => none }
def ChainRefusesWrongFalsely : Prop := chainRefusesRow.holds Try.pinned (OpenSpec.ofChange chainRefusesWrong)

/- THE SECOND FORM. 'bulk': how many values and letters a reading holds, each counted each time it is reached (what is shared counts as often as it is met; a slice's spare places count too). A statement '..UptoSaid' is the law's where the arguments, and the package variables that the reading takes, are together of bulk at most 1048576: NARROWER than '..Said'. Prove '..Said' where nothing that the law and all that it calls make is longer than what came in: it says more and counts as full. Else prove '..UptoSaid'. A law counts once. -/
mutual
def uptoBulk {H : Type} : DataW H → Nat
  | .lit (.string bytes) => bytes.length + 1
  | .lit _ => 1
  | .nil => 1
  | .ptr d => uptoBulk d + 1
  | .slice elems spare => uptoBulkAll elems + uptoBulkAll spare + 1
  | .agg parts => uptoBulkAll parts + 1
  | .iface _ d => uptoBulk d + 1
  | .map entries => uptoBulkEntries entries + 1
  | .held _ => 1
def uptoBulkAll {H : Type} : List (DataW H) → Nat
  | [] => 0
  | d :: r => uptoBulk d + uptoBulkAll r
def uptoBulkEntries {H : Type} : List (Lit × DataW H) → Nat
  | [] => 0
  | x :: r => uptoBulkEntry x + uptoBulkEntries r
def uptoBulkEntry {H : Type} : Lit × DataW H → Nat
  | (.string bytes, d) => bytes.length + uptoBulk d + 1
  | (_, d) => uptoBulk d + 1
 end
def uptoSmall : (H : Type) → List (DataW H) → Bool := fun _ ds => decide (uptoBulkAll ds ≤ 1048576)
def OpenSpec.upto (s : _root_.Go.ChangeSpec) : _root_.Go.OpenSpec := { _root_.Go.OpenSpec.ofChange s with cond := some uptoSmall }

/-- 'proctorlaw13.ChainSeen', WHERE WHAT IT READS IS OF BULK AT MOST 1048576: true; the input reads as it did. -/
def chainSeenUptoRow : OpenClaim := { program := "ytkbnfnfjmofcmaa", sum := "fddb6e514dbe45a85fec08eb19a2a3e7682fa7ad3a4f18c69295befb615e5019", func := "proctor/proctorlaw13.ChainSeen", spec := "chainSeen", unfollowed := true, recurses := true, apart := false, narrowed := true }
def ChainSeenUptoSaid : Prop := chainSeenUptoRow.holds Try.pinned (OpenSpec.upto chainSeenSpec)

/-- 'proctorlaw13.ChainApart', WHERE WHAT IT READS IS OF BULK AT MOST 1048576: true; the input reads as it did. -/
def chainApartUptoRow : OpenClaim := { program := "ytkbnfnfjmofcmaa", sum := "fddb6e514dbe45a85fec08eb19a2a3e7682fa7ad3a4f18c69295befb615e5019", func := "proctor/proctorlaw13.ChainApart", spec := "chainApart", unfollowed := true, recurses := true, apart := false, narrowed := true }
def ChainApartUptoSaid : Prop := chainApartUptoRow.holds Try.pinned (OpenSpec.upto chainApartSpec)

/-- 'proctorlaw13.ChainMemory', WHERE WHAT IT READS IS OF BULK AT MOST 1048576: true; the input reads as it did. -/
def chainMemoryUptoRow : OpenClaim := { program := "ytkbnfnfjmofcmaa", sum := "fddb6e514dbe45a85fec08eb19a2a3e7682fa7ad3a4f18c69295befb615e5019", func := "proctor/proctorlaw13.ChainMemory", spec := "chainMemory", unfollowed := true, recurses := true, apart := false, narrowed := true }
def ChainMemoryUptoSaid : Prop := chainMemoryUptoRow.holds Try.pinned (OpenSpec.upto chainMemorySpec)

/-- 'proctorlaw13.ChainPlays', WHERE WHAT IT READS IS OF BULK AT MOST 1048576: true; the input reads as it did. -/
def chainPlaysUptoRow : OpenClaim := { program := "ytkbnfnfjmofcmaa", sum := "fddb6e514dbe45a85fec08eb19a2a3e7682fa7ad3a4f18c69295befb615e5019", func := "proctor/proctorlaw13.ChainPlays", spec := "chainPlays", unfollowed := true, recurses := true, apart := false, narrowed := true }
def ChainPlaysUptoSaid : Prop := chainPlaysUptoRow.holds Try.pinned (OpenSpec.upto chainPlaysSpec)

/-- 'proctorlaw13.ChainPrunes', WHERE WHAT IT READS IS OF BULK AT MOST 1048576: true; the input reads as it did. -/
def chainPrunesUptoRow : OpenClaim := { program := "ytkbnfnfjmofcmaa", sum := "fddb6e514dbe45a85fec08eb19a2a3e7682fa7ad3a4f18c69295befb615e5019", func := "proctor/proctorlaw13.ChainPrunes", spec := "chainPrunes", unfollowed := true, recurses := true, apart := false, narrowed := true }
def ChainPrunesUptoSaid : Prop := chainPrunesUptoRow.holds Try.pinned (OpenSpec.upto chainPrunesSpec)

/-- 'proctorlaw13.ChainRefuses', WHERE WHAT IT READS IS OF BULK AT MOST 1048576: true; the input reads as it did. -/
def chainRefusesUptoRow : OpenClaim := { program := "ytkbnfnfjmofcmaa", sum := "fddb6e514dbe45a85fec08eb19a2a3e7682fa7ad3a4f18c69295befb615e5019", func := "proctor/proctorlaw13.ChainRefuses", spec := "chainRefuses", unfollowed := true, recurses := true, apart := false, narrowed := true }
def ChainRefusesUptoSaid : Prop := chainRefusesUptoRow.holds Try.pinned (OpenSpec.upto chainRefusesSpec)

end Rows
end Go.Proofs.Ytkbnfnfjmofcmaa
