/-
  No cell of these rows narrows 'for every input' (looked for: loops, veiled, ifaces, maps, wideKeys, modest, calm, conditions, laid).
  DERIVED. THE GIVEN ROWS OF THIS SEAT. 7 by the template 'for every input the law returns true; each argument reads behind the call as it read before'; 0 by the template 'total and deterministic' (their statements: YtbbfbkoanbdghaaTotals.lean).
  GIVEN WITH THE SEED: the statements are not yours to turn. If you find one false, say at which input.
  Laid BY PROGRAM, IN A SANDBOX (cutbox-rows.mjs): the forced cells as the released guide's own fill.sh prints them over the translation f334590025483b95… (all of the seat's roots in one cut). By AI agents, Wed Nov 11 2026. No macro, syntax, notation, axiom, sorry.
-/
import Derived.Test.YtbbfbkoanbdghaaChecked
import GoSem.Claim
import GoSem.ClaimJoined
import GoSem.ClaimMapViews
import Derived.JoinedTies
import Derived.KernelRfl
namespace Go.Proofs.Ytbbfbkoanbdghaa
/- THE CELL 'sum', in the pinned program and in every row, IS THE sha256 OF THE DUMP (.gsa) THAT YtbbfbkoanbdghaaProg.lean LOADS. Nothing in Lean hashes anything: it is a label: what it is worth is what the hold of that sum in a sandbox is worth. -/
noncomputable def Try.pinned : Pinned := { name := "ytbbfbkoanbdghaa", sum := "f334590025483b95288010aac52cbbf3203d063d956626e79e65d59d6e9e71cb", checked := Try.checked }
namespace Rows
def none {H : Type} : Left H := { results := [], args := [] }

/-- 'proctorlaw19.GraphFull': WHATEVER THE INPUT: true; the input reads as it did. -/
def graphFullSpec : ChangeSpec := { name := "graphFull", fn := fun _ => fun
  | [d] => { results := [.lit (.bool true)], args := [d] }
  | _ => none }
def graphFullRow : OpenClaim := { program := "ytbbfbkoanbdghaa", sum := "f334590025483b95288010aac52cbbf3203d063d956626e79e65d59d6e9e71cb", func := "proctor/proctorlaw19.GraphFull", spec := "graphFull", unfollowed := true, recurses := true, plainKeys := false, apart := false }
def GraphFullSaid : Prop := graphFullRow.holds Try.pinned (OpenSpec.ofChange graphFullSpec)

/-- ITS FALSE NEIGHBOUR: 'it returns false'. Refute it at one input. -/
def graphFullWrong : ChangeSpec := { name := "graphFull", fn := fun _ => fun
  | [d] => { results := [.lit (.bool false)], args := [d] }
  | _ => none }
def GraphFullWrongFalsely : Prop := graphFullRow.holds Try.pinned (OpenSpec.ofChange graphFullWrong)

/-- 'proctorlaw19.GraphOnce': WHATEVER THE INPUT: true; the input reads as it did. -/
def graphOnceSpec : ChangeSpec := { name := "graphOnce", fn := fun _ => fun
  | [d1, d2, d3, d4] => { results := [.lit (.bool true)], args := [d1, d2, d3, d4] }
  | _ => none }
def graphOnceRow : OpenClaim := { program := "ytbbfbkoanbdghaa", sum := "f334590025483b95288010aac52cbbf3203d063d956626e79e65d59d6e9e71cb", func := "proctor/proctorlaw19.GraphOnce", spec := "graphOnce", unfollowed := true, recurses := true, plainKeys := false, apart := false }
def GraphOnceSaid : Prop := graphOnceRow.holds Try.pinned (OpenSpec.ofChange graphOnceSpec)

/-- ITS FALSE NEIGHBOUR: 'it returns false'. Refute it at one input. -/
def graphOnceWrong : ChangeSpec := { name := "graphOnce", fn := fun _ => fun
  | [d1, d2, d3, d4] => { results := [.lit (.bool false)], args := [d1, d2, d3, d4] }
  | _ => none }
def GraphOnceWrongFalsely : Prop := graphOnceRow.holds Try.pinned (OpenSpec.ofChange graphOnceWrong)

/-- 'proctorlaw19.GraphPath': WHATEVER THE INPUT: true; the input reads as it did. -/
def graphPathSpec : ChangeSpec := { name := "graphPath", fn := fun _ => fun
  | [d1, d2, d3, d4, d5] => { results := [.lit (.bool true)], args := [d1, d2, d3, d4, d5] }
  | _ => none }
def graphPathRow : OpenClaim := { program := "ytbbfbkoanbdghaa", sum := "f334590025483b95288010aac52cbbf3203d063d956626e79e65d59d6e9e71cb", func := "proctor/proctorlaw19.GraphPath", spec := "graphPath", unfollowed := true, recurses := true, plainKeys := false, apart := false }
def GraphPathSaid : Prop := graphPathRow.holds Try.pinned (OpenSpec.ofChange graphPathSpec)

/-- ITS FALSE NEIGHBOUR: 'it returns false'. Refute it at one input. -/
def graphPathWrong : ChangeSpec := { name := "graphPath", fn := fun _ => fun
  | [d1, d2, d3, d4, d5] => { results := [.lit (.bool false)], args := [d1, d2, d3, d4, d5] }
  | _ => none }
def GraphPathWrongFalsely : Prop := graphPathRow.holds Try.pinned (OpenSpec.ofChange graphPathWrong)

/-- 'proctorlaw19.GraphOrder': WHATEVER THE INPUT: true; the input reads as it did. -/
def graphOrderSpec : ChangeSpec := { name := "graphOrder", fn := fun _ => fun
  | [d1, d2, d3] => { results := [.lit (.bool true)], args := [d1, d2, d3] }
  | _ => none }
def graphOrderRow : OpenClaim := { program := "ytbbfbkoanbdghaa", sum := "f334590025483b95288010aac52cbbf3203d063d956626e79e65d59d6e9e71cb", func := "proctor/proctorlaw19.GraphOrder", spec := "graphOrder", unfollowed := true, recurses := true, plainKeys := false, apart := false }
def GraphOrderSaid : Prop := graphOrderRow.holds Try.pinned (OpenSpec.ofChange graphOrderSpec)

/-- ITS FALSE NEIGHBOUR: 'it returns false'. Refute it at one input. -/
def graphOrderWrong : ChangeSpec := { name := "graphOrder", fn := fun _ => fun
  | [d1, d2, d3] => { results := [.lit (.bool false)], args := [d1, d2, d3] }
  | _ => none }
def GraphOrderWrongFalsely : Prop := graphOrderRow.holds Try.pinned (OpenSpec.ofChange graphOrderWrong)

/-- 'proctorlaw19.GraphGroups': WHATEVER THE INPUT: true; the input reads as it did. -/
def graphGroupsSpec : ChangeSpec := { name := "graphGroups", fn := fun _ => fun
  | [d1, d2, d3, d4] => { results := [.lit (.bool true)], args := [d1, d2, d3, d4] }
  | _ => none }
def graphGroupsRow : OpenClaim := { program := "ytbbfbkoanbdghaa", sum := "f334590025483b95288010aac52cbbf3203d063d956626e79e65d59d6e9e71cb", func := "proctor/proctorlaw19.GraphGroups", spec := "graphGroups", unfollowed := true, recurses := true, plainKeys := false, apart := false }
def GraphGroupsSaid : Prop := graphGroupsRow.holds Try.pinned (OpenSpec.ofChange graphGroupsSpec)

/-- ITS FALSE NEIGHBOUR: 'it returns false'. Refute it at one input. -/
def graphGroupsWrong : ChangeSpec := { name := "graphGroups", fn := fun _ => fun
  | [d1, d2, d3, d4] => { results := [.lit (.bool false)], args := [d1, d2, d3, d4] }
  | _ => none }
def GraphGroupsWrongFalsely : Prop := graphGroupsRow.holds Try.pinned (OpenSpec.ofChange graphGroupsWrong)

/-- 'proctorlaw19.GraphPlays': WHATEVER THE INPUT: true; the input reads as it did. -/
def graphPlaysSpec : ChangeSpec := { name := "graphPlays", fn := fun _ => fun
  | [d1, d2] => { results := [.lit (.bool true)], args := [d1, d2] }
  | _ => none }
def graphPlaysRow : OpenClaim := { program := "ytbbfbkoanbdghaa", sum := "f334590025483b95288010aac52cbbf3203d063d956626e79e65d59d6e9e71cb", func := "proctor/proctorlaw19.GraphPlays", spec := "graphPlays", unfollowed := true, recurses := true, plainKeys := false, apart := false }
def GraphPlaysSaid : Prop := graphPlaysRow.holds Try.pinned (OpenSpec.ofChange graphPlaysSpec)

/-- ITS FALSE NEIGHBOUR: 'it returns false'. Refute it at one input. -/
def graphPlaysWrong : ChangeSpec := { name := "graphPlays", fn := fun _ => fun
  | [d1, d2] => { results := [.lit (.bool false)], args := [d1, d2] }
  | _ => none }
def GraphPlaysWrongFalsely : Prop := graphPlaysRow.holds Try.pinned (OpenSpec.ofChange graphPlaysWrong)

/-- 'proctorlaw19.GraphMemory': WHATEVER THE INPUT: true; the input reads as it did. -/
def graphMemorySpec : ChangeSpec := { name := "graphMemory", fn := fun _ => fun
  | [d] => { results := [.lit (.bool true)], args := [d] }
  | _ => none }
def graphMemoryRow : OpenClaim := { program := "ytbbfbkoanbdghaa", sum := "f334590025483b95288010aac52cbbf3203d063d956626e79e65d59d6e9e71cb", func := "proctor/proctorlaw19.GraphMemory", spec := "graphMemory", unfollowed := true, recurses := true, plainKeys := false, apart := false }
def GraphMemorySaid : Prop := graphMemoryRow.holds Try.pinned (OpenSpec.ofChange graphMemorySpec)

/-- ITS FALSE NEIGHBOUR: 'it returns false'. Refute it at one input. -/
def graphMemoryWrong : ChangeSpec := { name := "graphMemory", fn := fun _ => fun
  | [d] => { results := [.lit (.bool false)], args := [d] }
  | _ => none }
def GraphMemoryWrongFalsely : Prop := graphMemoryRow.holds Try.pinned (OpenSpec.ofChange graphMemoryWrong)

/- THE SECOND FORM. 'bulk': how many values and letters a reading holds, each counted each time it is reached (what is shared counts as often as it is met; a slice's spare places count too). A statement '..UptoSaid' is the law's where the arguments, and the package variables that the reading takes, are together of bulk at most 1048576: NARROWER than '..Said'. Prove '..Said' where nothing that the law and all that it calls make is longer than what came in: it says more and counts as full. Else prove '..UptoSaid'. A law counts once. -/
mutual
def uptoBulk {H : Type} : DataW H → Nat
  | .lit (.string bytes) => bytes.length + 1
  | .lit _ => 1
  | .nil => 1
  | .ptr d => uptoBulk d + 1
  | .slice elems spare => uptoBulkAll elems + uptoBulkAll spare + 1
  | .agg parts => uptoBulkAll parts + 1
  | .iface _ d => uptoBulk d + 1
  | .map entries => uptoBulkEntries entries + 1
  | .held _ => 1
def uptoBulkAll {H : Type} : List (DataW H) → Nat
  | [] => 0
  | d :: r => uptoBulk d + uptoBulkAll r
def uptoBulkEntries {H : Type} : List (Lit × DataW H) → Nat
  | [] => 0
  | x :: r => uptoBulkEntry x + uptoBulkEntries r
def uptoBulkEntry {H : Type} : Lit × DataW H → Nat
  | (.string bytes, d) => bytes.length + uptoBulk d + 1
  | (_, d) => uptoBulk d + 1
 end
def uptoSmall : (H : Type) → List (DataW H) → Bool := fun _ ds => decide (uptoBulkAll ds ≤ 1048576)
def OpenSpec.upto (s : _root_.Go.ChangeSpec) : _root_.Go.OpenSpec := { _root_.Go.OpenSpec.ofChange s with cond := some uptoSmall }

/-- 'proctorlaw19.GraphFull', WHERE WHAT IT READS IS OF BULK AT MOST 1048576: true; the input reads as it did. -/
def graphFullUptoRow : OpenClaim := { program := "ytbbfbkoanbdghaa", sum := "f334590025483b95288010aac52cbbf3203d063d956626e79e65d59d6e9e71cb", func := "proctor/proctorlaw19.GraphFull", spec := "graphFull", unfollowed := true, recurses := true, plainKeys := false, apart := false, narrowed := true }
def GraphFullUptoSaid : Prop := graphFullUptoRow.holds Try.pinned (OpenSpec.upto graphFullSpec)

/-- 'proctorlaw19.GraphOnce', WHERE WHAT IT READS IS OF BULK AT MOST 1048576: true; the input reads as it did. -/
def graphOnceUptoRow : OpenClaim := { program := "ytbbfbkoanbdghaa", sum := "f334590025483b95288010aac52cbbf3203d063d956626e79e65d59d6e9e71cb", func := "proctor/proctorlaw19.GraphOnce", spec := "graphOnce", unfollowed := true, recurses := true, plainKeys := false, apart := false, narrowed := true }
def GraphOnceUptoSaid : Prop := graphOnceUptoRow.holds Try.pinned (OpenSpec.upto graphOnceSpec)

/-- 'proctorlaw19.GraphPath', WHERE WHAT IT READS IS OF BULK AT MOST 1048576: true; the input reads as it did. -/
def graphPathUptoRow : OpenClaim := { program := "ytbbfbkoanbdghaa", sum := "f334590025483b95288010aac52cbbf3203d063d956626e79e65d59d6e9e71cb", func := "proctor/proctorlaw19.GraphPath", spec := "graphPath", unfollowed := true, recurses := true, plainKeys := false, apart := false, narrowed := true }
def GraphPathUptoSaid : Prop := graphPathUptoRow.holds Try.pinned (OpenSpec.upto graphPathSpec)

/-- 'proctorlaw19.GraphOrder', WHERE WHAT IT READS IS OF BULK AT MOST 1048576: true; the input reads as it did. -/
def graphOrderUptoRow : OpenClaim := { program := "ytbbfbkoanbdghaa", sum := "f334590025483b95288010aac52cbbf3203d063d956626e79e65d59d6e9e71cb", func := "proctor/proctorlaw19.GraphOrder", spec := "graphOrder", unfollowed := true, recurses := true, plainKeys := false, apart := false, narrowed := true }
def GraphOrderUptoSaid : Prop := graphOrderUptoRow.holds Try.pinned (OpenSpec.upto graphOrderSpec)

/-- 'proctorlaw19.GraphGroups', WHERE WHAT IT READS IS OF BULK AT MOST 1048576: true; the input reads as it did. -/
def graphGroupsUptoRow : OpenClaim := { program := "ytbbfbkoanbdghaa", sum := "f334590025483b95288010aac52cbbf3203d063d956626e79e65d59d6e9e71cb", func := "proctor/proctorlaw19.GraphGroups", spec := "graphGroups", unfollowed := true, recurses := true, plainKeys := false, apart := false, narrowed := true }
def GraphGroupsUptoSaid : Prop := graphGroupsUptoRow.holds Try.pinned (OpenSpec.upto graphGroupsSpec)

/-- 'proctorlaw19.GraphPlays', WHERE WHAT IT READS IS OF BULK AT MOST 1048576: true; the input reads as it did. -/
def graphPlaysUptoRow : OpenClaim := { program := "ytbbfbkoanbdghaa", sum := "f334590025483b95288010aac52cbbf3203d063d956626e79e65d59d6e9e71cb", func := "proctor/proctorlaw19.GraphPlays", spec := "graphPlays", unfollowed := true, recurses := true, plainKeys := false, apart := false, narrowed := true }
def GraphPlaysUptoSaid : Prop := graphPlaysUptoRow.holds Try.pinned (OpenSpec.upto graphPlaysSpec)

/-- 'proctorlaw19.GraphMemory', WHERE WHAT IT READS IS OF BULK AT MOST 1048576: true; the input reads as it did. -/
def graphMemoryUptoRow : OpenClaim := { program := "ytbbfbkoanbdghaa", sum := "f334590025483b95288010aac52cbbf3203d063d956626e79e65d59d6e9e71cb", func := "proctor/proctorlaw19.GraphMemory", spec := "graphMemory", unfollowed := true, recurses := true, plainKeys := false, apart := false, narrowed := true }
def GraphMemoryUptoSaid : Prop := graphMemoryUptoRow.holds Try.pinned (OpenSpec.upto graphMemorySpec)

end Rows
end Go.Proofs.Ytbbfbkoanbdghaa
