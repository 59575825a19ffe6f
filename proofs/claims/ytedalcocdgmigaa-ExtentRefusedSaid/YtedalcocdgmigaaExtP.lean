/- Plain lemmas for ExtentMemory: every other block, and a list that is marked. No statement is proved here. -/
import Derived.Test.YtedalcocdgmigaaExtM
import Derived.Test.YtedalcocdgmigaaBase
set_option linter.unusedVariables false
set_option linter.unusedSimpArgs false
namespace Go.Proofs.Ytedalcocdgmigaa

/-- The even blocks as holes, from the a-th on. -/
def evensFrom : Nat → Nat → List (Int × Int)
  | _, 0 => []
  | a, k + 1 => (2 * (a : Int), 1) :: evensFrom (a + 1) k

theorem evensFrom_length : ∀ (k a : Nat), (evensFrom a k).length = k
  | 0, _ => rfl
  | k + 1, a => by simp [evensFrom, evensFrom_length k (a + 1)]
theorem evensFrom_get : ∀ (k a i : Nat) (h : i < (evensFrom a k).length), (evensFrom a k)[i] = (2 * ((a + i : Nat) : Int), 1)
  | 0, _, _, h => by simp [evensFrom] at h
  | k + 1, a, 0, _ => by simp [evensFrom]
  | k + 1, a, i + 1, h => by
    have h' : i < (evensFrom (a + 1) k).length := by simpa [evensFrom] using h
    have := evensFrom_get k (a + 1) i h'
    simp only [evensFrom, List.getElem_cons_succ, this]
    congr 2; omega
theorem evensFrom_ok : ∀ (k a : Nat) (n : Int), 2 * ((a + k : Nat) : Int) ≤ n + 1 → okFrom (2 * (a : Int)) n (evensFrom a k)
  | 0, _, _, _ => trivial
  | k + 1, a, n, h => by
    refine ⟨Int.le_refl _, by simp, by simp only; omega, ?_⟩
    have := evensFrom_ok k (a + 1) n (by omega)
    rw [show 2 * (a : Int) + 1 + 1 = 2 * ((a + 1 : Nat) : Int) by omega]
    exact this
theorem evensFrom_free : ∀ (k a : Nat) (x : Int), freeB (evensFrom a k) x = (decide (2 * (a : Int) ≤ x) && decide (x < 2 * ((a + k : Nat) : Int)) && decide (x % 2 = 0))
  | 0, a, x => by
    simp [evensFrom]
    intro h1 h2; omega
  | k + 1, a, x => by
    rw [evensFrom, freeB_cons, evensFrom_free k (a + 1) x, Bool.eq_iff_iff]
    simp
    omega

/-- The free blocks when the odd ones below 2k are taken. -/
def memF (n k : Nat) (x : Int) : Bool := decide (0 ≤ x) && decide (x < 2 * (n : Int) + 1) && !(decide (x % 2 = 1) && decide (x < 2 * (k : Int)))
theorem memF_zero (n : Nat) (x : Int) : memF n 0 x = freeB (if 0 < 2 * (n : Int) + 1 then [(0, 2 * (n : Int) + 1)] else []) x := by
  rw [if_pos (by omega), freeB_cons, Bool.eq_iff_iff]
  simp [memF]
  omega
theorem memF_at (n k : Nat) (h : k < n) : memF n k (2 * (k : Int) + 1) = true := by simp [memF]; omega
theorem memF_step (n k : Nat) (x : Int) : memF n (k + 1) x = (memF n k x && !(decide (2 * (k : Int) + 1 ≤ x) && decide (x < 2 * (k : Int) + 1 + 1))) := by
  rw [Bool.eq_iff_iff]
  simp [memF]
  omega
theorem memF_end {n : Nat} {hs : List (Int × Int)} (hok : okFrom 0 (2 * (n : Int) + 1) hs) (h : ∀ x, freeB hs x = memF n n x) : hs = evensFrom 0 (n + 1) := by
  refine okFrom_unique hok (by have := evensFrom_ok (n + 1) 0 (2 * (n : Int) + 1) (by omega); simpa using this) fun x => ?_
  rw [h x, evensFrom_free, Bool.eq_iff_iff]
  simp [memF]
  omega

/-- The first k elements marked. -/
def fillTo (v : Int) : Nat → List (Int × Int) → List (Int × Int)
  | 0, hs => hs
  | k + 1, hs => (fillTo v k hs).set k (v, (k : Int))
theorem fillTo_length (v : Int) : ∀ (k : Nat) (hs : List (Int × Int)), (fillTo v k hs).length = hs.length
  | 0, _ => rfl
  | k + 1, hs => by simp [fillTo, fillTo_length v k hs]
theorem fillTo_get (v : Int) : ∀ (k : Nat) (hs : List (Int × Int)) (i : Nat) (h : i < (fillTo v k hs).length), i < k → (fillTo v k hs)[i] = (v, (i : Int))
  | 0, _, _, _, h => by omega
  | k + 1, hs, i, h, hi => by
    simp only [fillTo, List.getElem_set]
    split
    · rename_i e; subst e; rfl
    · rename_i e
      exact fillTo_get v k hs i (by simpa [fillTo] using h) (by omega)

theorem cells2_setpair : ∀ (hs : List (Int × Int)) (k : Nat) (a b : Int), cells2 (hs.set k (a, b)) = ((cells2 hs).set (k * 2) (.int .i64 a)).set (k * 2 + 1) (.int .i64 b)
  | [], k, a, b => by simp [cells2]
  | h :: r, 0, a, b => by simp [cells2]
  | h :: r, k + 1, a, b => by
    rw [show (k + 1) * 2 = k * 2 + 2 by omega, show k * 2 + 2 + 1 = k * 2 + 1 + 2 by omega]
    simp [cells2, cells2_setpair r k a b]
end Go.Proofs.Ytedalcocdgmigaa
