/- What Read does, as plain data: a mirror of its loop. No statement is proved here. -/
import Derived.Test.YtkhejipcclpknaaSQ
set_option linter.unusedVariables false
set_option linter.unusedSimpArgs false
namespace Go.Proofs.Ytkhejipcclpknaa

/-- A block of a reader's source. -/
def Rd.fetch (R : Rd) (D : Dv) (b : Nat) : Int × List Int × Dv :=
  match R.chain with
  | none => D.readIn b
  | some l => D.readSc (((l[b]?).getD 0 : Nat) : Int)
/-- The block is held, or is read: the error, the reader, the device. -/
def Rd.hold (R : Rd) (D : Dv) (b : Nat) : Int × Rd × Dv :=
  if (b : Int) = R.held then (0, R, D) else
  if (R.fetch D b).1 = 0 then (0, { R with buf := (R.fetch D b).2.1, held := (b : Int) }, (R.fetch D b).2.2) else ((R.fetch D b).1, { R with fault := (R.fetch D b).1, buf := [] }, (R.fetch D b).2.2)
/-- Read's loop, for so many rounds at most: from place 'a' to place 'z'. -/
def rdLoop : Nat → Rd → Dv → Nat → Nat → List Int → Int × List Int × Rd × Dv
  | 0, R, D, _, _, out => (0, out, R, D)
  | f + 1, R, D, a, z, out =>
    if z ≤ a then (0, out, R, D) else
    if (R.hold D (a / R.unit)).1 = 0 then
      rdLoop f (R.hold D (a / R.unit)).2.1 (R.hold D (a / R.unit)).2.2 (a + min (z - a) (R.unit - a % R.unit)) z (out ++ ((R.hold D (a / R.unit)).2.1.buf.drop (a % R.unit)).take (min (z - a) (R.unit - a % R.unit)))
    else ((R.hold D (a / R.unit)).1, [], (R.hold D (a / R.unit)).2.1, (R.hold D (a / R.unit)).2.2)
theorem hold_unit (R : Rd) (D : Dv) (b : Nat) : (R.hold D b).2.1.unit = R.unit := by
  unfold Rd.hold
  split
  · rfl
  · split <;> rfl
end Go.Proofs.Ytkhejipcclpknaa
