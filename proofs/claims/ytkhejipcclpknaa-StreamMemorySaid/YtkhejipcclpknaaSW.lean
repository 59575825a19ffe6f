/- What Write does, as plain data: a mirror of its loop. No statement is proved here. -/
import Derived.Test.YtkhejipcclpknaaSN
set_option linter.unusedVariables false
set_option linter.unusedSimpArgs false
namespace Go.Proofs.Ytkhejipcclpknaa

/-- The block that Alloc(1) gives. -/
def allocB (n : Nat) (F : Int → Bool) : Option Nat := (List.range n).find? fun b => F (b : Int)
theorem allocB_eq {n : Nat} {F : Int → Bool} {b : Nat} (hb : b < n) (hF : F (b : Int) = true) (hl : ∀ y, F y = true → (b : Int) ≤ y) : allocB n F = some b := by
  unfold allocB
  rw [List.find?_eq_some_iff_getElem]
  refine ⟨hF, b, by simpa using hb, by simp, fun j hj => ?_⟩
  rw [List.getElem_range]
  cases h : F (j : Int) with
  | false => rfl
  | true =>
    have := hl _ h
    omega
theorem allocB_none {n : Nat} {F : Int → Bool} (h : ∀ x, F x = false) : allocB n F = none := by
  unfold allocB
  rw [List.find?_eq_none]
  intro x _
  rw [h]
  simp
def takeF (F : Int → Bool) (b : Nat) (x : Int) : Bool := F x && !(x == (b : Int))
/-- A block is taken where none is held. -/
def wAlloc (n : Nat) (W : Wt) (F : Int → Bool) : Option (Wt × (Int → Bool)) :=
  if W.buf = [] then (allocB n F).map fun b => ({ W with blocks := W.blocks ++ [b] }, takeF F b) else some (W, F)
def wK (W : Wt) (l : List Int) : Nat := min l.length (W.unit - W.buf.length)
/-- Bytes go into the block that is held. -/
def wTake (W : Wt) (l : List Int) : Wt := { W with buf := W.buf ++ l.take (wK W l), size := W.size + (wK W l : Nat) }
/-- The block that is held is written. -/
def wFlush (n : Nat) (W : Wt) (D : Dv) (F : Int → Bool) : Int × Wt × Dv × (Int → Bool) :=
  match W.blocks.getLast? with
  | none => (0, W, D, F)
  | some b => if (D.write b W.buf).1 = 0 then (0, { W with buf := [] }, (D.write b W.buf).2, F) else ((D.write b W.buf).1, W.spoil (D.write b W.buf).1, (D.write b W.buf).2, freeAll n F W.blocks)
/-- Write's loop, for so many rounds at most. -/
def wrLoop (n : Nat) : Nat → Wt → Dv → (Int → Bool) → List Int → Int × Wt × Dv × (Int → Bool)
  | 0, W, D, F, _ => (0, W, D, F)
  | f + 1, W, D, F, l =>
    if l = [] then (0, W, D, F) else
    match wAlloc n W F with
    | none => (42, W.spoil 42, D, freeAll n F W.blocks)
    | some (W1, F1) =>
      if (wTake W1 l).buf.length = W1.unit then
        (if (wFlush n (wTake W1 l) D F1).1 = 0 then wrLoop n f (wFlush n (wTake W1 l) D F1).2.1 (wFlush n (wTake W1 l) D F1).2.2.1 (wFlush n (wTake W1 l) D F1).2.2.2 (l.drop (wK W1 l)) else wFlush n (wTake W1 l) D F1)
      else wrLoop n f (wTake W1 l) D F1 (l.drop (wK W1 l))
end Go.Proofs.Ytkhejipcclpknaa
