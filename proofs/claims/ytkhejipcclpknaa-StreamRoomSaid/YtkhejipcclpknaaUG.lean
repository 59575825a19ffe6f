/- Helpers of the laws' walks: what is new stays new; counting. No statement is proved here. -/
import Derived.Test.YtkhejipcclpknaaUF
set_option linter.unusedVariables false
set_option linter.unusedSimpArgs false
namespace Go.Proofs.Ytkhejipcclpknaa
open Go.RowKit

def AllNew (B p s : Nat) (d : Dl) (o o' os : Option Nat) : Prop := ∀ k, allS p o o' d s os k → B ≤ k
theorem AllNew.step {B : Nat} {w w' : World} {p s : Nat} {d : Dl} {o o' os o1 o1' os1 : Option Nat} (h : AllNew B p s d o o' os) (st : WhStep w w' p s d o o' os o1 o1' os1) (hB : B ≤ w.heap.size) : AllNew B p s d o1 o1' os1 := fun k hk => by
  by_cases hlt : k < w.heap.size
  · exact h k (allS_heir st.h1 st.h2 st.h3 k hlt hk)
  · omega
theorem AllNew.below {w0 w w' : World} {p s : Nat} {d : Dl} {o o' os o1 o1' os1 : Option Nat} (h : AllNew w0.heap.size p s d o o' os) (hb : Below w0.heap.size w0 w) (st : WhStep w w' p s d o o' os o1 o1' os1) : Below w0.heap.size w0 w' :=
  hb.trans (st.up.below (B := w0.heap.size) hb.size h)
theorem allNew_mk {B p s : Nat} {d : Dl} {os : Option Nat} (hp : B ≤ p) (hd : ∀ k, d.S k → B ≤ k) (hs : ∀ k, sS s os k → B ≤ k) : AllNew B p s d none none os := fun k hk => by
  rcases hk with (hk | hk | hk) | hk | hk
  · rw [hk]; exact hp
  · cases hk
  · cases hk
  · exact hd k hk
  · exact hs k hk
theorem cnt_all : ∀ (n m : Nat), m ≤ n → cntB (allFree n) m = (m : Int)
  | n, 0, _ => rfl
  | n, m + 1, h => by
    unfold cntB
    rw [cnt_all n m (by omega)]
    unfold allFree
    rw [decide_eq_true (show (0 : Int) ≤ (m : Int) by omega), decide_eq_true (show (m : Int) < (n : Int) by omega)]
    simp
theorem cellsB_rep (n : Nat) : (madeCells #[.int .u8 0] n).toList = cellsB (List.replicate n 0) := by
  rw [toList_madeCells_one]
  simp [cellsB]
/-- A file that lies free cannot be dropped. -/
theorem drop_free (n : Nat) : ∀ (L : List Nat) (F : Int → Bool), (∀ b ∈ L, b < n) → (∀ b ∈ L, F (b : Int) = true) → L ≠ [] → (dropAll n F L).1 = 44 := by
  have stick : ∀ (L : List Nat) (S : Int × (Int → Bool)), S.1 = 44 → (L.foldl (dropS n) S).1 = 44 := by
    intro L
    induction L with
    | nil => intro S h; exact h
    | cons b r ih =>
      intro S h
      refine ih (dropS n S b) ?_
      unfold dropS
      rw [if_neg (by rw [h]; decide)]
      exact h
  intro L F hn hF hne
  cases L with
  | nil => exact absurd rfl hne
  | cons b r =>
    show (r.foldl (dropS n) (dropS n (0, F) b)).1 = 44
    refine stick r _ ?_
    unfold dropS freeR
    have := hn b (by simp)
    rw [if_pos rfl, if_pos (by omega), if_pos (hF b (by simp))]
end Go.Proofs.Ytkhejipcclpknaa
