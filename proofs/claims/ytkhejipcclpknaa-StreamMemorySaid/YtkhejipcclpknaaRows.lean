/-
  No cell of these rows narrows 'for every input' (looked for: loops, veiled, ifaces, maps, wideKeys, modest, calm, conditions, laid).
  DERIVED. THE GIVEN ROWS OF THIS SEAT. 7 by the template 'for every input the law returns true; each argument reads behind the call as it read before'; 0 by the template 'total and deterministic' (their statements: YtkhejipcclpknaaTotals.lean).
  GIVEN WITH THE SEED: the statements are not yours to turn. If you find one false, say at which input.
  Laid BY PROGRAM, IN A SANDBOX (cutbox-rows.mjs): the forced cells as the released guide's own fill.sh prints them over the translation 417cdd02dbd172d5… (all of the seat's roots in one cut). By AI agents, Wed Nov 11 2026. No macro, syntax, notation, axiom, sorry.
-/
import Derived.Test.YtkhejipcclpknaaChecked
import GoSem.Claim
import GoSem.ClaimJoined
import GoSem.ClaimMapViews
import Derived.JoinedTies
import Derived.KernelRfl
namespace Go.Proofs.Ytkhejipcclpknaa
/- THE CELL 'sum', in the pinned program and in every row, IS THE sha256 OF THE DUMP (.gsa) THAT YtkhejipcclpknaaProg.lean LOADS. Nothing in Lean hashes anything: it is a label: what it is worth is what the hold of that sum in a sandbox is worth. -/
noncomputable def Try.pinned : Pinned := { name := "ytkhejipcclpknaa", sum := "417cdd02dbd172d53b8e0335d3c6ec3f65608e6792ede748d895ad637b3209be", checked := Try.checked }
namespace Rows
def none {H : Type} : Left H := { results := [], args := [] }

/-- 'proctorlaw08.StreamMemory': WHATEVER THE INPUT: true; the input reads as it did. -/
def streamMemorySpec : ChangeSpec := { name := "streamMemory", fn := fun _ => fun
  | [d] => { results := [.lit (.bool true)], args := [d] }
  | _ => none }
def streamMemoryRow : OpenClaim := { program := "ytkhejipcclpknaa", sum := "417cdd02dbd172d53b8e0335d3c6ec3f65608e6792ede748d895ad637b3209be", func := "proctor/proctorlaw08.StreamMemory", spec := "streamMemory", inPlace := ["slices.overlaps[proctor/extent.Extent]"], unfollowed := true, recurses := true, plainKeys := false, apart := false }
def StreamMemorySaid : Prop := streamMemoryRow.holds Try.pinned (OpenSpec.ofChange streamMemorySpec)

/-- ITS FALSE NEIGHBOUR: 'it returns false'. Refute it at one input. -/
def streamMemoryWrong : ChangeSpec := { name := "streamMemory", fn := fun _ => fun
  | [d] => { results := [.lit (.bool false)], args := [d] }
  | _ => none }
def StreamMemoryWrongFalsely : Prop := streamMemoryRow.holds Try.pinned (OpenSpec.ofChange streamMemoryWrong)

/-- 'proctorlaw08.StreamApart': WHATEVER THE INPUT: true; the input reads as it did. -/
def streamApartSpec : ChangeSpec := { name := "streamApart", fn := fun _ => fun
  | [d1, d2] => { results := [.lit (.bool true)], args := [d1, d2] }
  | _ => none }
def streamApartRow : OpenClaim := { program := "ytkhejipcclpknaa", sum := "417cdd02dbd172d53b8e0335d3c6ec3f65608e6792ede748d895ad637b3209be", func := "proctor/proctorlaw08.StreamApart", spec := "streamApart", inPlace := ["slices.overlaps[proctor/extent.Extent]"], unfollowed := true, recurses := true, plainKeys := false, apart := false }
def StreamApartSaid : Prop := streamApartRow.holds Try.pinned (OpenSpec.ofChange streamApartSpec)

/-- ITS FALSE NEIGHBOUR: 'it returns false'. Refute it at one input. -/
def streamApartWrong : ChangeSpec := { name := "streamApart", fn := fun _ => fun
  | [d1, d2] => { results := [.lit (.bool false)], args := [d1, d2] }
  | _ => none }
def StreamApartWrongFalsely : Prop := streamApartRow.holds Try.pinned (OpenSpec.ofChange streamApartWrong)

/-- 'proctorlaw08.StreamInput': WHATEVER THE INPUT: true; the input reads as it did. -/
def streamInputSpec : ChangeSpec := { name := "streamInput", fn := fun _ => fun
  | [d1, d2, d3] => { results := [.lit (.bool true)], args := [d1, d2, d3] }
  | _ => none }
def streamInputRow : OpenClaim := { program := "ytkhejipcclpknaa", sum := "417cdd02dbd172d53b8e0335d3c6ec3f65608e6792ede748d895ad637b3209be", func := "proctor/proctorlaw08.StreamInput", spec := "streamInput", inPlace := ["slices.overlaps[proctor/extent.Extent]"], unfollowed := true, recurses := true, plainKeys := false, apart := false }
def StreamInputSaid : Prop := streamInputRow.holds Try.pinned (OpenSpec.ofChange streamInputSpec)

/-- ITS FALSE NEIGHBOUR: 'it returns false'. Refute it at one input. -/
def streamInputWrong : ChangeSpec := { name := "streamInput", fn := fun _ => fun
  | [d1, d2, d3] => { results := [.lit (.bool false)], args := [d1, d2, d3] }
  | _ => none }
def StreamInputWrongFalsely : Prop := streamInputRow.holds Try.pinned (OpenSpec.ofChange streamInputWrong)

/-- 'proctorlaw08.StreamBack': WHATEVER THE INPUT: true; the input reads as it did. -/
def streamBackSpec : ChangeSpec := { name := "streamBack", fn := fun _ => fun
  | [d1, d2, d3] => { results := [.lit (.bool true)], args := [d1, d2, d3] }
  | _ => none }
def streamBackRow : OpenClaim := { program := "ytkhejipcclpknaa", sum := "417cdd02dbd172d53b8e0335d3c6ec3f65608e6792ede748d895ad637b3209be", func := "proctor/proctorlaw08.StreamBack", spec := "streamBack", inPlace := ["slices.overlaps[proctor/extent.Extent]"], unfollowed := true, recurses := true, plainKeys := false, apart := false }
def StreamBackSaid : Prop := streamBackRow.holds Try.pinned (OpenSpec.ofChange streamBackSpec)

/-- ITS FALSE NEIGHBOUR: 'it returns false'. Refute it at one input. -/
def streamBackWrong : ChangeSpec := { name := "streamBack", fn := fun _ => fun
  | [d1, d2, d3] => { results := [.lit (.bool false)], args := [d1, d2, d3] }
  | _ => none }
def StreamBackWrongFalsely : Prop := streamBackRow.holds Try.pinned (OpenSpec.ofChange streamBackWrong)

/-- 'proctorlaw08.StreamBroken': WHATEVER THE INPUT: true; the input reads as it did. -/
def streamBrokenSpec : ChangeSpec := { name := "streamBroken", fn := fun _ => fun
  | [d1, d2] => { results := [.lit (.bool true)], args := [d1, d2] }
  | _ => none }
def streamBrokenRow : OpenClaim := { program := "ytkhejipcclpknaa", sum := "417cdd02dbd172d53b8e0335d3c6ec3f65608e6792ede748d895ad637b3209be", func := "proctor/proctorlaw08.StreamBroken", spec := "streamBroken", inPlace := ["slices.overlaps[proctor/extent.Extent]"], unfollowed := true, recurses := true, plainKeys := false, apart := false }
def StreamBrokenSaid : Prop := streamBrokenRow.holds Try.pinned (OpenSpec.ofChange streamBrokenSpec)

/-- ITS FALSE NEIGHBOUR: 'it returns false'. Refute it at one input. -/
def streamBrokenWrong : ChangeSpec := { name := "streamBroken", fn := fun _ => fun
  | [d1, d2] => { results := [.lit (.bool false)], args := [d1, d2] }
  | _ => none }
def StreamBrokenWrongFalsely : Prop := streamBrokenRow.holds Try.pinned (OpenSpec.ofChange streamBrokenWrong)

/-- 'proctorlaw08.StreamRoom': WHATEVER THE INPUT: true; the input reads as it did. -/
def streamRoomSpec : ChangeSpec := { name := "streamRoom", fn := fun _ => fun
  | [d1, d2] => { results := [.lit (.bool true)], args := [d1, d2] }
  | _ => none }
def streamRoomRow : OpenClaim := { program := "ytkhejipcclpknaa", sum := "417cdd02dbd172d53b8e0335d3c6ec3f65608e6792ede748d895ad637b3209be", func := "proctor/proctorlaw08.StreamRoom", spec := "streamRoom", inPlace := ["slices.overlaps[proctor/extent.Extent]"], unfollowed := true, recurses := true, plainKeys := false, apart := false }
def StreamRoomSaid : Prop := streamRoomRow.holds Try.pinned (OpenSpec.ofChange streamRoomSpec)

/-- ITS FALSE NEIGHBOUR: 'it returns false'. Refute it at one input. -/
def streamRoomWrong : ChangeSpec := { name := "streamRoom", fn := fun _ => fun
  | [d1, d2] => { results := [.lit (.bool false)], args := [d1, d2] }
  | _ => none }
def StreamRoomWrongFalsely : Prop := streamRoomRow.holds Try.pinned (OpenSpec.ofChange streamRoomWrong)

/-- 'proctorlaw08.StreamPlays': WHATEVER THE INPUT: true; the input reads as it did. -/
def streamPlaysSpec : ChangeSpec := { name := "streamPlays", fn := fun _ => fun
  | [d1, d2] => { results := [.lit (.bool true)], args := [d1, d2] }
  | _ => none }
def streamPlaysRow : OpenClaim := { program := "ytkhejipcclpknaa", sum := "417cdd02dbd172d53b8e0335d3c6ec3f65608e6792ede748d895ad637b3209be", func := "proctor/proctorlaw08.StreamPlays", spec := "streamPlays", inPlace := ["slices.overlaps[proctor/extent.Extent]"], unfollowed := true, recurses := true, plainKeys := false, apart := false }
def StreamPlaysSaid : Prop := streamPlaysRow.holds Try.pinned (OpenSpec.ofChange streamPlaysSpec)

/-- ITS FALSE NEIGHBOUR: 'it returns false'. Refute it at one input. -/
def streamPlaysWrong : ChangeSpec := { name := "streamPlays", fn := fun _ => fun
  | [d1, d2] => { results := [.lit (.bool false)], args := [d1, d2] }
  | _ => none }
def StreamPlaysWrongFalsely : Prop := streamPlaysRow.holds Try.pinned (OpenSpec.ofChange streamPlaysWrong)

/- THE SECOND FORM. 'bulk': how many values and letters a reading holds, each counted each time it is reached (what is shared counts as often as it is met; a slice's spare places count too). A statement '..UptoSaid' is the law's where the arguments, and the package variables that the reading takes, are together of bulk at most 1048576: NARROWER than '..Said'. Prove '..Said' where nothing that the law and all that it calls make is longer than what came in: it says more and counts as full. Else prove '..UptoSaid'. A law counts once. -/
mutual
def uptoBulk {H : Type} : DataW H → Nat
  | .lit (.string bytes) => bytes.length + 1
  | .lit _ => 1
  | .nil => 1
  | .ptr d => uptoBulk d + 1
  | .slice elems spare => uptoBulkAll elems + uptoBulkAll spare + 1
  | .agg parts => uptoBulkAll parts + 1
  | .iface _ d => uptoBulk d + 1
  | .map entries => uptoBulkEntries entries + 1
  | .held _ => 1
def uptoBulkAll {H : Type} : List (DataW H) → Nat
  | [] => 0
  | d :: r => uptoBulk d + uptoBulkAll r
def uptoBulkEntries {H : Type} : List (Lit × DataW H) → Nat
  | [] => 0
  | x :: r => uptoBulkEntry x + uptoBulkEntries r
def uptoBulkEntry {H : Type} : Lit × DataW H → Nat
  | (.string bytes, d) => bytes.length + uptoBulk d + 1
  | (_, d) => uptoBulk d + 1
 end
def uptoSmall : (H : Type) → List (DataW H) → Bool := fun _ ds => decide (uptoBulkAll ds ≤ 1048576)
def OpenSpec.upto (s : _root_.Go.ChangeSpec) : _root_.Go.OpenSpec := { _root_.Go.OpenSpec.ofChange s with cond := some uptoSmall }

/-- 'proctorlaw08.StreamMemory', WHERE WHAT IT READS IS OF BULK AT MOST 1048576: true; the input reads as it did. -/
def streamMemoryUptoRow : OpenClaim := { program := "ytkhejipcclpknaa", sum := "417cdd02dbd172d53b8e0335d3c6ec3f65608e6792ede748d895ad637b3209be", func := "proctor/proctorlaw08.StreamMemory", spec := "streamMemory", inPlace := ["slices.overlaps[proctor/extent.Extent]"], unfollowed := true, recurses := true, plainKeys := false, apart := false, narrowed := true }
def StreamMemoryUptoSaid : Prop := streamMemoryUptoRow.holds Try.pinned (OpenSpec.upto streamMemorySpec)

/-- 'proctorlaw08.StreamApart', WHERE WHAT IT READS IS OF BULK AT MOST 1048576: true; the input reads as it did. -/
def streamApartUptoRow : OpenClaim := { program := "ytkhejipcclpknaa", sum := "417cdd02dbd172d53b8e0335d3c6ec3f65608e6792ede748d895ad637b3209be", func := "proctor/proctorlaw08.StreamApart", spec := "streamApart", inPlace := ["slices.overlaps[proctor/extent.Extent]"], unfollowed := true, recurses := true, plainKeys := false, apart := false, narrowed := true }
def StreamApartUptoSaid : Prop := streamApartUptoRow.holds Try.pinned (OpenSpec.upto streamApartSpec)

/-- 'proctorlaw08.StreamInput', WHERE WHAT IT READS IS OF BULK AT MOST 1048576: true; the input reads as it did. -/
def streamInputUptoRow : OpenClaim := { program := "ytkhejipcclpknaa", sum := "417cdd02dbd172d53b8e0335d3c6ec3f65608e6792ede748d895ad637b3209be", func := "proctor/proctorlaw08.StreamInput", spec := "streamInput", inPlace := ["slices.overlaps[proctor/extent.Extent]"], unfollowed := true, recurses := true, plainKeys := false, apart := false, narrowed := true }
def StreamInputUptoSaid : Prop := streamInputUptoRow.holds Try.pinned (OpenSpec.upto streamInputSpec)

/-- 'proctorlaw08.StreamBack', WHERE WHAT IT READS IS OF BULK AT MOST 1048576: true; the input reads as it did. -/
def streamBackUptoRow : OpenClaim := { program := "ytkhejipcclpknaa", sum := "417cdd02dbd172d53b8e0335d3c6ec3f65608e6792ede748d895ad637b3209be", func := "proctor/proctorlaw08.StreamBack", spec := "streamBack", inPlace := ["slices.overlaps[proctor/extent.Extent]"], unfollowed := true, recurses := true, plainKeys := false, apart := false, narrowed := true }
def StreamBackUptoSaid : Prop := streamBackUptoRow.holds Try.pinned (OpenSpec.upto streamBackSpec)

/-- 'proctorlaw08.StreamBroken', WHERE WHAT IT READS IS OF BULK AT MOST 1048576: true; the input reads as it did. -/
def streamBrokenUptoRow : OpenClaim := { program := "ytkhejipcclpknaa", sum := "417cdd02dbd172d53b8e0335d3c6ec3f65608e6792ede748d895ad637b3209be", func := "proctor/proctorlaw08.StreamBroken", spec := "streamBroken", inPlace := ["slices.overlaps[proctor/extent.Extent]"], unfollowed := true, recurses := true, plainKeys := false, apart := false, narrowed := true }
def StreamBrokenUptoSaid : Prop := streamBrokenUptoRow.holds Try.pinned (OpenSpec.upto streamBrokenSpec)

/-- 'proctorlaw08.StreamRoom', WHERE WHAT IT READS IS OF BULK AT MOST 1048576: true; the input reads as it did. -/
def streamRoomUptoRow : OpenClaim := { program := "ytkhejipcclpknaa", sum := "417cdd02dbd172d53b8e0335d3c6ec3f65608e6792ede748d895ad637b3209be", func := "proctor/proctorlaw08.StreamRoom", spec := "streamRoom", inPlace := ["slices.overlaps[proctor/extent.Extent]"], unfollowed := true, recurses := true, plainKeys := false, apart := false, narrowed := true }
def StreamRoomUptoSaid : Prop := streamRoomUptoRow.holds Try.pinned (OpenSpec.upto streamRoomSpec)

/-- 'proctorlaw08.StreamPlays', WHERE WHAT IT READS IS OF BULK AT MOST 1048576: true; the input reads as it did. -/
def streamPlaysUptoRow : OpenClaim := { program := "ytkhejipcclpknaa", sum := "417cdd02dbd172d53b8e0335d3c6ec3f65608e6792ede748d895ad637b3209be", func := "proctor/proctorlaw08.StreamPlays", spec := "streamPlays", inPlace := ["slices.overlaps[proctor/extent.Extent]"], unfollowed := true, recurses := true, plainKeys := false, apart := false, narrowed := true }
def StreamPlaysUptoSaid : Prop := streamPlaysUptoRow.holds Try.pinned (OpenSpec.upto streamPlaysSpec)

end Rows
end Go.Proofs.Ytkhejipcclpknaa
