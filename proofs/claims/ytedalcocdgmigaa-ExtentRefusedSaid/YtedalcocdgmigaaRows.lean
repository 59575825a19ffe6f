/-
  No cell of these rows narrows 'for every input' (looked for: loops, veiled, ifaces, maps, wideKeys, modest, calm, conditions, laid).
  DERIVED. THE GIVEN ROWS OF THIS SEAT. 7 by the template 'for every input the law returns true; each argument reads behind the call as it read before'; 0 by the template 'total and deterministic' (their statements: YtedalcocdgmigaaTotals.lean).
  GIVEN WITH THE SEED: the statements are not yours to turn. If you find one false, say at which input.
  Laid BY PROGRAM, IN A SANDBOX (cutbox-rows.mjs): the forced cells as the released guide's own fill.sh prints them over the translation 24639e4d9d699f73… (all of the seat's roots in one cut). By AI agents, Wed Nov 11 2026. No macro, syntax, notation, axiom, sorry.
-/
import Derived.Test.YtedalcocdgmigaaChecked
import GoSem.Claim
import GoSem.ClaimJoined
import GoSem.ClaimMapViews
import Derived.JoinedTies
import Derived.KernelRfl
namespace Go.Proofs.Ytedalcocdgmigaa
/- THE CELL 'sum', in the pinned program and in every row, IS THE sha256 OF THE DUMP (.gsa) THAT YtedalcocdgmigaaProg.lean LOADS. Nothing in Lean hashes anything: it is a label: what it is worth is what the hold of that sum in a sandbox is worth. -/
noncomputable def Try.pinned : Pinned := { name := "ytedalcocdgmigaa", sum := "24639e4d9d699f7340e2dd1970425963c681a4fd8fdf6e5b8f743d7f74bc6043", checked := Try.checked }
namespace Rows
def none {H : Type} : Left H := { results := [], args := [] }

/-- 'proctorlaw12.ExtsortPasses': WHATEVER THE INPUT: true; the input reads as it did. -/
def extsortPassesSpec : ChangeSpec := { name := "extsortPasses", fn := fun _ => fun
  | [d1, d2] => { results := [.lit (.bool true)], args := [d1, d2] }
  | _ => none }
def extsortPassesRow : OpenClaim := { program := "ytedalcocdgmigaa", sum := "24639e4d9d699f7340e2dd1970425963c681a4fd8fdf6e5b8f743d7f74bc6043", func := "proctor/proctorlaw12.ExtsortPasses", spec := "extsortPasses", apart := false }
def ExtsortPassesSaid : Prop := extsortPassesRow.holds Try.pinned (OpenSpec.ofChange extsortPassesSpec)

/-- ITS FALSE NEIGHBOUR: 'it returns false'. Refute it at one input. -/
def extsortPassesWrong : ChangeSpec := { name := "extsortPasses", fn := fun _ => fun
  | [d1, d2] => { results := [.lit (.bool false)], args := [d1, d2] }
  | _ => none }
def ExtsortPassesWrongFalsely : Prop := extsortPassesRow.holds Try.pinned (OpenSpec.ofChange extsortPassesWrong)

/-- 'proctorlaw04.ExtentMemory': WHATEVER THE INPUT: true; the input reads as it did. -/
def extentMemorySpec : ChangeSpec := { name := "extentMemory", fn := fun _ => fun
  | [d] => { results := [.lit (.bool true)], args := [d] }
  | _ => none }
def extentMemoryRow : OpenClaim := { program := "ytedalcocdgmigaa", sum := "24639e4d9d699f7340e2dd1970425963c681a4fd8fdf6e5b8f743d7f74bc6043", func := "proctor/proctorlaw04.ExtentMemory", spec := "extentMemory", inPlace := ["slices.overlaps[proctor/extent.Extent]"], unfollowed := true, recurses := true, apart := false }
def ExtentMemorySaid : Prop := extentMemoryRow.holds Try.pinned (OpenSpec.ofChange extentMemorySpec)

/-- ITS FALSE NEIGHBOUR: 'it returns false'. Refute it at one input. -/
def extentMemoryWrong : ChangeSpec := { name := "extentMemory", fn := fun _ => fun
  | [d] => { results := [.lit (.bool false)], args := [d] }
  | _ => none }
def ExtentMemoryWrongFalsely : Prop := extentMemoryRow.holds Try.pinned (OpenSpec.ofChange extentMemoryWrong)

/-- 'proctorlaw04.ExtentApart': WHATEVER THE INPUT: true; the input reads as it did. -/
def extentApartSpec : ChangeSpec := { name := "extentApart", fn := fun _ => fun
  | [d1, d2, d3] => { results := [.lit (.bool true)], args := [d1, d2, d3] }
  | _ => none }
def extentApartRow : OpenClaim := { program := "ytedalcocdgmigaa", sum := "24639e4d9d699f7340e2dd1970425963c681a4fd8fdf6e5b8f743d7f74bc6043", func := "proctor/proctorlaw04.ExtentApart", spec := "extentApart", inPlace := ["slices.overlaps[proctor/extent.Extent]"], unfollowed := true, recurses := true, apart := false }
def ExtentApartSaid : Prop := extentApartRow.holds Try.pinned (OpenSpec.ofChange extentApartSpec)

/-- ITS FALSE NEIGHBOUR: 'it returns false'. Refute it at one input. -/
def extentApartWrong : ChangeSpec := { name := "extentApart", fn := fun _ => fun
  | [d1, d2, d3] => { results := [.lit (.bool false)], args := [d1, d2, d3] }
  | _ => none }
def ExtentApartWrongFalsely : Prop := extentApartRow.holds Try.pinned (OpenSpec.ofChange extentApartWrong)

/-- 'proctorlaw04.ExtentWhole': WHATEVER THE INPUT: true; the input reads as it did. -/
def extentWholeSpec : ChangeSpec := { name := "extentWhole", fn := fun _ => fun
  | [d1, d2, d3] => { results := [.lit (.bool true)], args := [d1, d2, d3] }
  | _ => none }
def extentWholeRow : OpenClaim := { program := "ytedalcocdgmigaa", sum := "24639e4d9d699f7340e2dd1970425963c681a4fd8fdf6e5b8f743d7f74bc6043", func := "proctor/proctorlaw04.ExtentWhole", spec := "extentWhole", inPlace := ["slices.overlaps[proctor/extent.Extent]"], unfollowed := true, recurses := true, apart := false }
def ExtentWholeSaid : Prop := extentWholeRow.holds Try.pinned (OpenSpec.ofChange extentWholeSpec)

/-- ITS FALSE NEIGHBOUR: 'it returns false'. Refute it at one input. -/
def extentWholeWrong : ChangeSpec := { name := "extentWhole", fn := fun _ => fun
  | [d1, d2, d3] => { results := [.lit (.bool false)], args := [d1, d2, d3] }
  | _ => none }
def ExtentWholeWrongFalsely : Prop := extentWholeRow.holds Try.pinned (OpenSpec.ofChange extentWholeWrong)

/-- 'proctorlaw04.ExtentPlays': WHATEVER THE INPUT: true; the input reads as it did. -/
def extentPlaysSpec : ChangeSpec := { name := "extentPlays", fn := fun _ => fun
  | [d1, d2] => { results := [.lit (.bool true)], args := [d1, d2] }
  | _ => none }
def extentPlaysRow : OpenClaim := { program := "ytedalcocdgmigaa", sum := "24639e4d9d699f7340e2dd1970425963c681a4fd8fdf6e5b8f743d7f74bc6043", func := "proctor/proctorlaw04.ExtentPlays", spec := "extentPlays", inPlace := ["slices.overlaps[proctor/extent.Extent]"], unfollowed := true, recurses := true, apart := false }
def ExtentPlaysSaid : Prop := extentPlaysRow.holds Try.pinned (OpenSpec.ofChange extentPlaysSpec)

/-- ITS FALSE NEIGHBOUR: 'it returns false'. Refute it at one input. -/
def extentPlaysWrong : ChangeSpec := { name := "extentPlays", fn := fun _ => fun
  | [d1, d2] => { results := [.lit (.bool false)], args := [d1, d2] }
  | _ => none }
def ExtentPlaysWrongFalsely : Prop := extentPlaysRow.holds Try.pinned (OpenSpec.ofChange extentPlaysWrong)

/-- 'proctorlaw04.ExtentHoles': WHATEVER THE INPUT: true; the input reads as it did. -/
def extentHolesSpec : ChangeSpec := { name := "extentHoles", fn := fun _ => fun
  | [d1, d2] => { results := [.lit (.bool true)], args := [d1, d2] }
  | _ => none }
def extentHolesRow : OpenClaim := { program := "ytedalcocdgmigaa", sum := "24639e4d9d699f7340e2dd1970425963c681a4fd8fdf6e5b8f743d7f74bc6043", func := "proctor/proctorlaw04.ExtentHoles", spec := "extentHoles", inPlace := ["slices.overlaps[proctor/extent.Extent]"], unfollowed := true, recurses := true, apart := false }
def ExtentHolesSaid : Prop := extentHolesRow.holds Try.pinned (OpenSpec.ofChange extentHolesSpec)

/-- ITS FALSE NEIGHBOUR: 'it returns false'. Refute it at one input. -/
def extentHolesWrong : ChangeSpec := { name := "extentHoles", fn := fun _ => fun
  | [d1, d2] => { results := [.lit (.bool false)], args := [d1, d2] }
  | _ => none }
def ExtentHolesWrongFalsely : Prop := extentHolesRow.holds Try.pinned (OpenSpec.ofChange extentHolesWrong)

/-- 'proctorlaw04.ExtentRefused': WHATEVER THE INPUT: true; the input reads as it did. -/
def extentRefusedSpec : ChangeSpec := { name := "extentRefused", fn := fun _ => fun
  | [d1, d2, d3] => { results := [.lit (.bool true)], args := [d1, d2, d3] }
  | _ => none }
def extentRefusedRow : OpenClaim := { program := "ytedalcocdgmigaa", sum := "24639e4d9d699f7340e2dd1970425963c681a4fd8fdf6e5b8f743d7f74bc6043", func := "proctor/proctorlaw04.ExtentRefused", spec := "extentRefused", inPlace := ["slices.overlaps[proctor/extent.Extent]"], unfollowed := true, recurses := true, apart := false }
def ExtentRefusedSaid : Prop := extentRefusedRow.holds Try.pinned (OpenSpec.ofChange extentRefusedSpec)

/-- ITS FALSE NEIGHBOUR: 'it returns false'. Refute it at one input. -/
def extentRefusedWrong : ChangeSpec := { name := "extentRefused", fn := fun _ => fun
  | [d1, d2, d3] => { results := [.lit (.bool false)], args := [d1, d2, d3] }
  | _ => none }
def ExtentRefusedWrongFalsely : Prop := extentRefusedRow.holds Try.pinned (OpenSpec.ofChange extentRefusedWrong)

/- THE SECOND FORM. 'bulk': how many values and letters a reading holds, each counted each time it is reached (what is shared counts as often as it is met; a slice's spare places count too). A statement '..UptoSaid' is the law's where the arguments, and the package variables that the reading takes, are together of bulk at most 1048576: NARROWER than '..Said'. Prove '..Said' where nothing that the law and all that it calls make is longer than what came in: it says more and counts as full. Else prove '..UptoSaid'. A law counts once. -/
mutual
def uptoBulk {H : Type} : DataW H → Nat
  | .lit (.string bytes) => bytes.length + 1
  | .lit _ => 1
  | .nil => 1
  | .ptr d => uptoBulk d + 1
  | .slice elems spare => uptoBulkAll elems + uptoBulkAll spare + 1
  | .agg parts => uptoBulkAll parts + 1
  | .iface _ d => uptoBulk d + 1
  | .map entries => uptoBulkEntries entries + 1
  | .held _ => 1
def uptoBulkAll {H : Type} : List (DataW H) → Nat
  | [] => 0
  | d :: r => uptoBulk d + uptoBulkAll r
def uptoBulkEntries {H : Type} : List (Lit × DataW H) → Nat
  | [] => 0
  | x :: r => uptoBulkEntry x + uptoBulkEntries r
def uptoBulkEntry {H : Type} : Lit × DataW H → Nat
  | (.string bytes, d) => bytes.length + uptoBulk d + 1
  | (_, d) => uptoBulk d + 1
 end
def uptoSmall : (H : Type) → List (DataW H) → Bool := fun _ ds => decide (uptoBulkAll ds ≤ 1048576)
def OpenSpec.upto (s : _root_.Go.ChangeSpec) : _root_.Go.OpenSpec := { _root_.Go.OpenSpec.ofChange s with cond := some uptoSmall }

/-- 'proctorlaw12.ExtsortPasses', WHERE WHAT IT READS IS OF BULK AT MOST 1048576: true; the input reads as it did. -/
def extsortPassesUptoRow : OpenClaim := { program := "ytedalcocdgmigaa", sum := "24639e4d9d699f7340e2dd1970425963c681a4fd8fdf6e5b8f743d7f74bc6043", func := "proctor/proctorlaw12.ExtsortPasses", spec := "extsortPasses", apart := false, narrowed := true }
def ExtsortPassesUptoSaid : Prop := extsortPassesUptoRow.holds Try.pinned (OpenSpec.upto extsortPassesSpec)

/-- 'proctorlaw04.ExtentMemory', WHERE WHAT IT READS IS OF BULK AT MOST 1048576: true; the input reads as it did. -/
def extentMemoryUptoRow : OpenClaim := { program := "ytedalcocdgmigaa", sum := "24639e4d9d699f7340e2dd1970425963c681a4fd8fdf6e5b8f743d7f74bc6043", func := "proctor/proctorlaw04.ExtentMemory", spec := "extentMemory", inPlace := ["slices.overlaps[proctor/extent.Extent]"], unfollowed := true, recurses := true, apart := false, narrowed := true }
def ExtentMemoryUptoSaid : Prop := extentMemoryUptoRow.holds Try.pinned (OpenSpec.upto extentMemorySpec)

/-- 'proctorlaw04.ExtentApart', WHERE WHAT IT READS IS OF BULK AT MOST 1048576: true; the input reads as it did. -/
def extentApartUptoRow : OpenClaim := { program := "ytedalcocdgmigaa", sum := "24639e4d9d699f7340e2dd1970425963c681a4fd8fdf6e5b8f743d7f74bc6043", func := "proctor/proctorlaw04.ExtentApart", spec := "extentApart", inPlace := ["slices.overlaps[proctor/extent.Extent]"], unfollowed := true, recurses := true, apart := false, narrowed := true }
def ExtentApartUptoSaid : Prop := extentApartUptoRow.holds Try.pinned (OpenSpec.upto extentApartSpec)

/-- 'proctorlaw04.ExtentWhole', WHERE WHAT IT READS IS OF BULK AT MOST 1048576: true; the input reads as it did. -/
def extentWholeUptoRow : OpenClaim := { program := "ytedalcocdgmigaa", sum := "24639e4d9d699f7340e2dd1970425963c681a4fd8fdf6e5b8f743d7f74bc6043", func := "proctor/proctorlaw04.ExtentWhole", spec := "extentWhole", inPlace := ["slices.overlaps[proctor/extent.Extent]"], unfollowed := true, recurses := true, apart := false, narrowed := true }
def ExtentWholeUptoSaid : Prop := extentWholeUptoRow.holds Try.pinned (OpenSpec.upto extentWholeSpec)

/-- 'proctorlaw04.ExtentPlays', WHERE WHAT IT READS IS OF BULK AT MOST 1048576: true; the input reads as it did. -/
def extentPlaysUptoRow : OpenClaim := { program := "ytedalcocdgmigaa", sum := "24639e4d9d699f7340e2dd1970425963c681a4fd8fdf6e5b8f743d7f74bc6043", func := "proctor/proctorlaw04.ExtentPlays", spec := "extentPlays", inPlace := ["slices.overlaps[proctor/extent.Extent]"], unfollowed := true, recurses := true, apart := false, narrowed := true }
def ExtentPlaysUptoSaid : Prop := extentPlaysUptoRow.holds Try.pinned (OpenSpec.upto extentPlaysSpec)

/-- 'proctorlaw04.ExtentHoles', WHERE WHAT IT READS IS OF BULK AT MOST 1048576: true; the input reads as it did. -/
def extentHolesUptoRow : OpenClaim := { program := "ytedalcocdgmigaa", sum := "24639e4d9d699f7340e2dd1970425963c681a4fd8fdf6e5b8f743d7f74bc6043", func := "proctor/proctorlaw04.ExtentHoles", spec := "extentHoles", inPlace := ["slices.overlaps[proctor/extent.Extent]"], unfollowed := true, recurses := true, apart := false, narrowed := true }
def ExtentHolesUptoSaid : Prop := extentHolesUptoRow.holds Try.pinned (OpenSpec.upto extentHolesSpec)

/-- 'proctorlaw04.ExtentRefused', WHERE WHAT IT READS IS OF BULK AT MOST 1048576: true; the input reads as it did. -/
def extentRefusedUptoRow : OpenClaim := { program := "ytedalcocdgmigaa", sum := "24639e4d9d699f7340e2dd1970425963c681a4fd8fdf6e5b8f743d7f74bc6043", func := "proctor/proctorlaw04.ExtentRefused", spec := "extentRefused", inPlace := ["slices.overlaps[proctor/extent.Extent]"], unfollowed := true, recurses := true, apart := false, narrowed := true }
def ExtentRefusedUptoSaid : Prop := extentRefusedUptoRow.holds Try.pinned (OpenSpec.upto extentRefusedSpec)

end Rows
end Go.Proofs.Ytedalcocdgmigaa
