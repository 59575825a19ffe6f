/- Counting the free blocks: plain Lean. No statement is proved here. -/
import Derived.Test.YtkhejipcclpknaaExtM
set_option linter.unusedVariables false
set_option linter.unusedSimpArgs false
namespace Go.Proofs.Ytkhejipcclpknaa

def cntB (f : Int → Bool) : Nat → Int
  | 0 => 0
  | k + 1 => cntB f k + if f k then 1 else 0
theorem cntB_congr {f g : Int → Bool} : ∀ (N : Nat), (∀ x, 0 ≤ x → x < (N : Int) → f x = g x) → cntB f N = cntB g N
  | 0, _ => rfl
  | k + 1, h => by
    simp only [cntB]
    rw [cntB_congr k (fun x h0 h1 => h x h0 (by omega)), h k (by omega) (by omega)]
theorem cntB_or {f g : Int → Bool} : ∀ (N : Nat), (∀ x, 0 ≤ x → x < (N : Int) → f x = true → g x = false) → cntB (fun x => f x || g x) N = cntB f N + cntB g N
  | 0, _ => rfl
  | k + 1, h => by
    simp only [cntB]
    rw [cntB_or k (fun x h0 h1 => h x h0 (by omega))]
    have := h k (by omega) (by omega)
    by_cases hf : f (k : Int) = true <;> by_cases hg : g (k : Int) = true <;> simp [hf, hg] at this ⊢ <;> omega
theorem cntB_zero : ∀ (N : Nat), cntB (fun _ => false) N = 0
  | 0 => rfl
  | k + 1 => by simp [cntB, cntB_zero k]
theorem cntB_span (a c : Int) (ha : 0 ≤ a) (hc : 0 ≤ c) : ∀ (N : Nat), cntB (fun x => decide (a ≤ x) && decide (x < a + c)) N = min (max ((N : Int) - a) 0) c
  | 0 => by simp [cntB]; omega
  | k + 1 => by
    simp only [cntB]
    rw [cntB_span a c ha hc k]
    by_cases h1 : a ≤ (k : Int) <;> by_cases h2 : (k : Int) < a + c <;> simp [h1, h2] <;> omega
theorem leftOf_cnt {lo n : Int} (h0 : 0 ≤ lo) : ∀ {hs : List (Int × Int)}, okFrom lo n hs → ∀ (N : Nat), n ≤ (N : Int) → leftOf hs = cntB (freeB hs) N := by
  intro hs
  induction hs generalizing lo with
  | nil =>
    intro _ N _
    rw [show freeB [] = (fun _ => false) from rfl, cntB_zero]
    rfl
  | cons h r ih =>
    intro hok N hN
    have hm := hok.mem h (by simp)
    obtain ⟨k1, k2, k3, k4⟩ := hok
    have hr : okFrom (h.1 + h.2 + 1) n r := k4
    have hfr := ih (lo := h.1 + h.2 + 1) (by omega) hr N hN
    rw [leftOf_cons, hfr, show freeB (h :: r) = (fun x => (decide (h.1 ≤ x) && decide (x < h.1 + h.2)) || freeB r x) from funext fun x => freeB_cons h r x,
      cntB_or N (fun x h0 h1 hx => by simp at hx; exact hr.low x (by omega)), cntB_span h.1 h.2 (by omega) (by omega) N]
    omega
/-- A span is added to the free blocks: so much more is left. -/
theorem leftOf_add {n f c : Int} {hs hs' : List (Int × Int)} (hok : okFrom 0 n hs) (hok' : okFrom 0 n hs') (hn : 0 ≤ n) (hf : 0 ≤ f) (hc : 0 ≤ c) (hfc : f + c ≤ n)
    (hno : ∀ x, f ≤ x → x < f + c → freeB hs x = false) (h : ∀ x, freeB hs' x = (freeB hs x || (decide (f ≤ x) && decide (x < f + c)))) : leftOf hs' = leftOf hs + c := by
  obtain ⟨N, rfl⟩ := Int.eq_ofNat_of_zero_le hn
  rw [leftOf_cnt (by omega) hok N (Int.le_refl _), leftOf_cnt (by omega) hok' N (Int.le_refl _), show freeB hs' = (fun x => freeB hs x || (decide (f ≤ x) && decide (x < f + c))) from funext h,
    cntB_or N (fun x h0 h1 hx => by
      by_cases h3 : f ≤ x ∧ x < f + c
      · rw [hno x h3.1 h3.2] at hx; cases hx
      · simp; omega), cntB_span f c hf hc N]
  omega
/-- A free span is taken out of the free blocks: so much less is left. -/
theorem leftOf_sub {n f c : Int} {hs hs' : List (Int × Int)} (hok : okFrom 0 n hs) (hok' : okFrom 0 n hs') (hn : 0 ≤ n) (hf : 0 ≤ f) (hc : 0 ≤ c) (hfc : f + c ≤ n)
    (hall : ∀ x, f ≤ x → x < f + c → freeB hs x = true) (h : ∀ x, freeB hs' x = (freeB hs x && !(decide (f ≤ x) && decide (x < f + c)))) : leftOf hs = leftOf hs' + c := by
  refine leftOf_add hok' hok hn hf hc hfc (fun x h1 h2 => by rw [h]; simp [h1, h2]) (fun x => ?_)
  rw [h]
  by_cases h3 : f ≤ x ∧ x < f + c
  · rw [hall x h3.1 h3.2]; simp [h3.1, h3.2]
  · have : (decide (f ≤ x) && decide (x < f + c)) = false := by simp; omega
    rw [this]; simp
theorem leftOf_pos {lo n : Int} {hs : List (Int × Int)} (hok : okFrom lo n hs) (h : hs ≠ []) : 0 < leftOf hs := by
  cases hs with
  | nil => exact absurd rfl h
  | cons x r =>
    obtain ⟨k1, k2, k3, k4⟩ := hok
    have hr : okFrom (x.1 + x.2 + 1) n r := k4
    have := (hr.left (by omega)).1
    rw [leftOf_cons]; omega
/-- What a hole of at least c gives: its first c blocks. -/
theorem leftOf_cut (A B : List (Int × Int)) (h : Int × Int) (c : Int) (h1 : 1 ≤ c) (h2 : c ≤ h.2) : leftOf (A ++ restF h (h.1, c) ++ B) = leftOf (A ++ h :: B) - c := by
  have : ∀ X Y : List (Int × Int), leftOf (X ++ Y) = leftOf X + leftOf Y := fun X Y => by simp [leftOf]
  rw [this, this, this, leftOf_cons]
  have hr : leftOf (restF h (h.1, c)) = h.2 - c := by
    unfold restF
    by_cases c2 : h.1 + c < h.1 + h.2
    · simp [c2, leftOf]; omega
    · simp [c2, leftOf]; omega
  omega
/-- Whole: the blocks given back, i of them from the first on round about. -/
def wholeF (n first i x : Int) : Bool := decide (0 ≤ x) && decide (x < n) && decide ((x - first) % n < i)
theorem wholeF_zero (n first x : Int) (hn : 0 < n) : wholeF n first 0 x = false := by
  have := Int.emod_nonneg (x - first) (show n ≠ 0 by omega)
  simp [wholeF]; omega
theorem wholeF_end (n first x : Int) (hn : 0 < n) : wholeF n first n x = freeB [(0, n)] x := by
  have := Int.emod_lt_of_pos (x - first) hn
  simp [wholeF, freeB]; omega
theorem whole_at (n first i : Int) (hn : 0 < n) (hi : 0 ≤ i) (hin : i < n) : ((first + i) % n - first) % n = i := by
  rw [Int.emod_sub_emod, show first + i - first = i by omega, Int.emod_eq_of_lt hi hin]
theorem wholeF_at (n first i : Int) (hn : 0 < n) (hi : 0 ≤ i) (hin : i < n) : wholeF n first i ((first + i) % n) = false := by
  unfold wholeF
  rw [whole_at n first i hn hi hin]; simp
theorem wholeF_step (n first i x : Int) (hn : 0 < n) (hi : 0 ≤ i) (hin : i < n) :
    wholeF n first (i + 1) x = (wholeF n first i x || (decide ((first + i) % n ≤ x) && decide (x < (first + i) % n + 1))) := by
  have hb0 := Int.emod_nonneg (first + i) (show n ≠ 0 by omega)
  have hb1 := Int.emod_lt_of_pos (first + i) hn
  by_cases hx : x = (first + i) % n
  · subst hx
    unfold wholeF
    rw [whole_at n first i hn hi hin]
    simp [hb0, hb1]; omega
  · have hne : 0 ≤ x → x < n → (x - first) % n ≠ i := fun h0 h1 he => by
      apply hx
      rw [← he, Int.add_emod_emod, show first + (x - first) = x by omega, Int.emod_eq_of_lt h0 h1]
    have h2 : (decide ((first + i) % n ≤ x) && decide (x < (first + i) % n + 1)) = false := by simp; omega
    rw [h2]
    simp only [wholeF, Bool.or_false]
    by_cases h0 : 0 ≤ x <;> by_cases h1 : x < n <;> simp [h0, h1]
    have := hne h0 h1
    omega
end Go.Proofs.Ytkhejipcclpknaa
