/-
  No cell of these rows narrows 'for every input' (looked for: loops, veiled, ifaces, maps, wideKeys, modest, calm, conditions, laid).
  DERIVED. THE GIVEN ROWS OF THIS SEAT. 6 by the template 'for every input the law returns true; each argument reads behind the call as it read before'; 0 by the template 'total and deterministic' (their statements: YtgimpkbknaopcaaTotals.lean).
  GIVEN WITH THE SEED: the statements are not yours to turn. If you find one false, say at which input.
  Laid BY PROGRAM, IN A SANDBOX (cutbox-rows.mjs): the forced cells as the released guide's own fill.sh prints them over the translation 4ef603d45096ea33… (all of the seat's roots in one cut). By AI agents, Wed Nov 11 2026. No macro, syntax, notation, axiom, sorry.
-/
import Derived.Test.YtgimpkbknaopcaaChecked
import GoSem.Claim
import GoSem.ClaimJoined
import GoSem.ClaimMapViews
import Derived.JoinedTies
import Derived.KernelRfl
namespace Go.Proofs.Ytgimpkbknaopcaa
/- THE CELL 'sum', in the pinned program and in every row, IS THE sha256 OF THE DUMP (.gsa) THAT YtgimpkbknaopcaaProg.lean LOADS. Nothing in Lean hashes anything: it is a label: what it is worth is what the hold of that sum in a sandbox is worth. -/
noncomputable def Try.pinned : Pinned := { name := "ytgimpkbknaopcaa", sum := "4ef603d45096ea33d7ec30e59cea556fdb821ed8503d47d00534c35a4595ee55", checked := Try.checked }
namespace Rows
def none {H : Type} : Left H := { results := [], args := [] }

/-- 'proctorlaw18.ViolPlays': WHATEVER THE INPUT: true; the input reads as it did. -/
def violPlaysSpec : ChangeSpec := { name := "violPlays", fn := fun _ => fun
  | [d1, d2] => { results := [.lit (.bool true)], args := [d1, d2] }
  | _ => none }
def violPlaysRow : OpenClaim := { program := "ytgimpkbknaopcaa", sum := "4ef603d45096ea33d7ec30e59cea556fdb821ed8503d47d00534c35a4595ee55", func := "proctor/proctorlaw18.ViolPlays", spec := "violPlays", unfollowed := true, recurses := true, apart := false }
def ViolPlaysSaid : Prop := violPlaysRow.holds Try.pinned (OpenSpec.ofChange violPlaysSpec)

/-- ITS FALSE NEIGHBOUR: 'it returns false'. Refute it at one input. -/
def violPlaysWrong : ChangeSpec := { name := "violPlays", fn := fun _ => fun
  | [d1, d2] => { results := [.lit (.bool false)], args := [d1, d2] }
  | _ => none }
def ViolPlaysWrongFalsely : Prop := violPlaysRow.holds Try.pinned (OpenSpec.ofChange violPlaysWrong)

/-- 'proctorlaw18.ViolHead': WHATEVER THE INPUT: true; the input reads as it did. -/
def violHeadSpec : ChangeSpec := { name := "violHead", fn := fun _ => fun
  | [d1, d2, d3] => { results := [.lit (.bool true)], args := [d1, d2, d3] }
  | _ => none }
def violHeadRow : OpenClaim := { program := "ytgimpkbknaopcaa", sum := "4ef603d45096ea33d7ec30e59cea556fdb821ed8503d47d00534c35a4595ee55", func := "proctor/proctorlaw18.ViolHead", spec := "violHead", unfollowed := true, recurses := true, apart := false }
def ViolHeadSaid : Prop := violHeadRow.holds Try.pinned (OpenSpec.ofChange violHeadSpec)

/-- ITS FALSE NEIGHBOUR: 'it returns false'. Refute it at one input. -/
def violHeadWrong : ChangeSpec := { name := "violHead", fn := fun _ => fun
  | [d1, d2, d3] => { results := [.lit (.bool false)], args := [d1, d2, d3] }
  | _ => none }
def ViolHeadWrongFalsely : Prop := violHeadRow.holds Try.pinned (OpenSpec.ofChange violHeadWrong)

/-- 'proctorlaw18.ViolBounds': WHATEVER THE INPUT: true; the input reads as it did. -/
def violBoundsSpec : ChangeSpec := { name := "violBounds", fn := fun _ => fun
  | [d1, d2] => { results := [.lit (.bool true)], args := [d1, d2] }
  | _ => none }
def violBoundsRow : OpenClaim := { program := "ytgimpkbknaopcaa", sum := "4ef603d45096ea33d7ec30e59cea556fdb821ed8503d47d00534c35a4595ee55", func := "proctor/proctorlaw18.ViolBounds", spec := "violBounds", unfollowed := true, recurses := true, apart := false }
def ViolBoundsSaid : Prop := violBoundsRow.holds Try.pinned (OpenSpec.ofChange violBoundsSpec)

/-- ITS FALSE NEIGHBOUR: 'it returns false'. Refute it at one input. -/
def violBoundsWrong : ChangeSpec := { name := "violBounds", fn := fun _ => fun
  | [d1, d2] => { results := [.lit (.bool false)], args := [d1, d2] }
  | _ => none }
def ViolBoundsWrongFalsely : Prop := violBoundsRow.holds Try.pinned (OpenSpec.ofChange violBoundsWrong)

/-- 'proctorlaw18.ViolKeeps': WHATEVER THE INPUT: true; the input reads as it did. -/
def violKeepsSpec : ChangeSpec := { name := "violKeeps", fn := fun _ => fun
  | [d] => { results := [.lit (.bool true)], args := [d] }
  | _ => none }
def violKeepsRow : OpenClaim := { program := "ytgimpkbknaopcaa", sum := "4ef603d45096ea33d7ec30e59cea556fdb821ed8503d47d00534c35a4595ee55", func := "proctor/proctorlaw18.ViolKeeps", spec := "violKeeps", unfollowed := true, recurses := true, apart := false }
def ViolKeepsSaid : Prop := violKeepsRow.holds Try.pinned (OpenSpec.ofChange violKeepsSpec)

/-- ITS FALSE NEIGHBOUR: 'it returns false'. Refute it at one input. -/
def violKeepsWrong : ChangeSpec := { name := "violKeeps", fn := fun _ => fun
  | [d] => { results := [.lit (.bool false)], args := [d] }
  | _ => none }
def ViolKeepsWrongFalsely : Prop := violKeepsRow.holds Try.pinned (OpenSpec.ofChange violKeepsWrong)

/-- 'proctorlaw18.ViolMemory': WHATEVER THE INPUT: true; the input reads as it did. -/
def violMemorySpec : ChangeSpec := { name := "violMemory", fn := fun _ => fun
  | [d] => { results := [.lit (.bool true)], args := [d] }
  | _ => none }
def violMemoryRow : OpenClaim := { program := "ytgimpkbknaopcaa", sum := "4ef603d45096ea33d7ec30e59cea556fdb821ed8503d47d00534c35a4595ee55", func := "proctor/proctorlaw18.ViolMemory", spec := "violMemory", unfollowed := true, recurses := true, apart := false }
def ViolMemorySaid : Prop := violMemoryRow.holds Try.pinned (OpenSpec.ofChange violMemorySpec)

/-- ITS FALSE NEIGHBOUR: 'it returns false'. Refute it at one input. -/
def violMemoryWrong : ChangeSpec := { name := "violMemory", fn := fun _ => fun
  | [d] => { results := [.lit (.bool false)], args := [d] }
  | _ => none }
def ViolMemoryWrongFalsely : Prop := violMemoryRow.holds Try.pinned (OpenSpec.ofChange violMemoryWrong)

/-- 'proctorlaw18.ViolSorts': WHATEVER THE INPUT: true; the input reads as it did. -/
def violSortsSpec : ChangeSpec := { name := "violSorts", fn := fun _ => fun
  | [d] => { results := [.lit (.bool true)], args := [d] }
  | _ => none }
def violSortsRow : OpenClaim := { program := "ytgimpkbknaopcaa", sum := "4ef603d45096ea33d7ec30e59cea556fdb821ed8503d47d00534c35a4595ee55", func := "proctor/proctorlaw18.ViolSorts", spec := "violSorts", unfollowed := true, recurses := true, apart := false }
def ViolSortsSaid : Prop := violSortsRow.holds Try.pinned (OpenSpec.ofChange violSortsSpec)

/-- ITS FALSE NEIGHBOUR: 'it returns false'. Refute it at one input. -/
def violSortsWrong : ChangeSpec := { name := "violSorts", fn := fun _ => fun
  | [d] => { results := [.lit (.bool false)], args := [d] }
  | _ => none }
def ViolSortsWrongFalsely : Prop := violSortsRow.holds Try.pinned (OpenSpec.ofChange violSortsWrong)

/- THE SECOND FORM. 'bulk': how many values and letters a reading holds, each counted each time it is reached (what is shared counts as often as it is met; a slice's spare places count too). A statement '..UptoSaid' is the law's where the arguments, and the package variables that the reading takes, are together of bulk at most 1048576: NARROWER than '..Said'. Prove '..Said' where nothing that the law and all that it calls make is longer than what came in: it says more and counts as full. Else prove '..UptoSaid'. A law counts once. -/
mutual
def uptoBulk {H : Type} : DataW H → Nat
  | .lit (.string bytes) => bytes.length + 1
  | .lit _ => 1
  | .nil => 1
  | .ptr d => uptoBulk d + 1
  | .slice elems spare => uptoBulkAll elems + uptoBulkAll spare + 1
  | .agg parts => uptoBulkAll parts + 1
  | .iface _ d => uptoBulk d + 1
  | .map entries => uptoBulkEntries entries + 1
  | .held _ => 1
def uptoBulkAll {H : Type} : List (DataW H) → Nat
  | [] => 0
  | d :: r => uptoBulk d + uptoBulkAll r
def uptoBulkEntries {H : Type} : List (Lit × DataW H) → Nat
  | [] => 0
  | x :: r => uptoBulkEntry x + uptoBulkEntries r
def uptoBulkEntry {H : Type} : Lit × DataW H → Nat
  | (.string bytes, d) => bytes.length + uptoBulk d + 1
  | (_, d) => uptoBulk d + 1
 end
def uptoSmall : (H : Type) → List (DataW H) → Bool := fun _ ds => decide (uptoBulkAll ds ≤ 1048576)
def OpenSpec.upto (s : _root_.Go.ChangeSpec) : _root_.Go.OpenSpec := { _root_.Go.OpenSpec.ofChange s with cond := some uptoSmall }

/-- 'proctorlaw18.ViolPlays', WHERE WHAT IT READS IS OF BULK AT MOST 1048576: true; the input reads as it did. -/
def violPlaysUptoRow : OpenClaim := { program := "ytgimpkbknaopcaa", sum := "4ef603d45096ea33d7ec30e59cea556fdb821ed8503d47d00534c35a4595ee55", func := "proctor/proctorlaw18.ViolPlays", spec := "violPlays", unfollowed := true, recurses := true, apart := false, narrowed := true }
def ViolPlaysUptoSaid : Prop := violPlaysUptoRow.holds Try.pinned (OpenSpec.upto violPlaysSpec)

/-- 'proctorlaw18.ViolHead', WHERE WHAT IT READS IS OF BULK AT MOST 1048576: true; the input reads as it did. -/
def violHeadUptoRow : OpenClaim := { program := "ytgimpkbknaopcaa", sum := "4ef603d45096ea33d7ec30e59cea556fdb821ed8503d47d00534c35a4595ee55", func := "proctor/proctorlaw18.ViolHead", spec := "violHead", unfollowed := true, recurses := true, apart := false, narrowed := true }
def ViolHeadUptoSaid : Prop := violHeadUptoRow.holds Try.pinned (OpenSpec.upto violHeadSpec)

/-- 'proctorlaw18.ViolBounds', WHERE WHAT IT READS IS OF BULK AT MOST 1048576: true; the input reads as it did. -/
def violBoundsUptoRow : OpenClaim := { program := "ytgimpkbknaopcaa", sum := "4ef603d45096ea33d7ec30e59cea556fdb821ed8503d47d00534c35a4595ee55", func := "proctor/proctorlaw18.ViolBounds", spec := "violBounds", unfollowed := true, recurses := true, apart := false, narrowed := true }
def ViolBoundsUptoSaid : Prop := violBoundsUptoRow.holds Try.pinned (OpenSpec.upto violBoundsSpec)

/-- 'proctorlaw18.ViolKeeps', WHERE WHAT IT READS IS OF BULK AT MOST 1048576: true; the input reads as it did. -/
def violKeepsUptoRow : OpenClaim := { program := "ytgimpkbknaopcaa", sum := "4ef603d45096ea33d7ec30e59cea556fdb821ed8503d47d00534c35a4595ee55", func := "proctor/proctorlaw18.ViolKeeps", spec := "violKeeps", unfollowed := true, recurses := true, apart := false, narrowed := true }
def ViolKeepsUptoSaid : Prop := violKeepsUptoRow.holds Try.pinned (OpenSpec.upto violKeepsSpec)

/-- 'proctorlaw18.ViolMemory', WHERE WHAT IT READS IS OF BULK AT MOST 1048576: true; the input reads as it did. -/
def violMemoryUptoRow : OpenClaim := { program := "ytgimpkbknaopcaa", sum := "4ef603d45096ea33d7ec30e59cea556fdb821ed8503d47d00534c35a4595ee55", func := "proctor/proctorlaw18.ViolMemory", spec := "violMemory", unfollowed := true, recurses := true, apart := false, narrowed := true }
def ViolMemoryUptoSaid : Prop := violMemoryUptoRow.holds Try.pinned (OpenSpec.upto violMemorySpec)

/-- 'proctorlaw18.ViolSorts', WHERE WHAT IT READS IS OF BULK AT MOST 1048576: true; the input reads as it did. -/
def violSortsUptoRow : OpenClaim := { program := "ytgimpkbknaopcaa", sum := "4ef603d45096ea33d7ec30e59cea556fdb821ed8503d47d00534c35a4595ee55", func := "proctor/proctorlaw18.ViolSorts", spec := "violSorts", unfollowed := true, recurses := true, apart := false, narrowed := true }
def ViolSortsUptoSaid : Prop := violSortsUptoRow.holds Try.pinned (OpenSpec.upto violSortsSpec)

end Rows
end Go.Proofs.Ytgimpkbknaopcaa
