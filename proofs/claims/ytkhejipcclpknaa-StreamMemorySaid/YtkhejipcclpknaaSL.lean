/- A space by its free blocks: Alloc and Free of one block. No statement is proved here. -/
import Derived.Test.YtkhejipcclpknaaExtK
import Derived.Test.YtkhejipcclpknaaExtE
set_option linter.unusedVariables false
set_option linter.unusedSimpArgs false
namespace Go.Proofs.Ytkhejipcclpknaa
open Go.RowKit

def SpF (w : World) (p : Nat) (o : Option Nat) (n : Nat) (F : Int → Bool) : Prop := ∃ hs, Sp w p o n hs ∧ ∀ x, freeB hs x = F x
theorem SpF.below {w w' : World} {p : Nat} {o : Option Nat} {n : Nat} {F : Int → Bool} (h : SpF w p o n F) (hb : Below w.heap.size w w') : SpF w' p o n F := by
  obtain ⟨hs, h1, h2⟩ := h
  exact ⟨hs, h1.below hb, h2⟩
theorem SpF.upd {S : Nat → Prop} {w w' : World} {p : Nat} {o : Option Nat} {n : Nat} {F : Int → Bool} (h : SpF w p o n F) (u : Upd S w w') (hp : ¬ S p) (ho : ∀ k, o = some k → ¬ S k) : SpF w' p o n F := by
  obtain ⟨hs, h1, h2⟩ := h
  exact ⟨hs, h1.upd u hp ho, h2⟩
theorem SpF.lt {w : World} {p : Nat} {o : Option Nat} {n : Nat} {F : Int → Bool} (h : SpF w p o n F) : p < w.heap.size ∧ ∀ k, o = some k → k < w.heap.size := by
  obtain ⟨hs, h1, h2⟩ := h
  exact h1.lt
theorem SpF.ext {w : World} {p : Nat} {o : Option Nat} {n : Nat} {F F' : Int → Bool} (h : SpF w p o n F) (he : ∀ x, F x = F' x) : SpF w p o n F' := by
  obtain ⟨hs, h1, h2⟩ := h
  exact ⟨hs, h1, fun x => (h2 x).trans (he x)⟩
theorem free_from {lo n : Int} : ∀ {hs : List (Int × Int)}, okFrom lo n hs → ∀ x, freeB hs x = true → lo ≤ x ∧ x < n
  | [], _, x, h => by simp at h
  | h :: r, hok, x, hx => by
    obtain ⟨a1, a2, a3, a4⟩ := hok
    rw [freeB_cons, Bool.or_eq_true] at hx
    rcases hx with hx | hx
    · simp at hx
      omega
    · have := free_from a4 x hx
      omega
def Alloc1Post (w : World) (p : Nat) (o : Option Nat) (n : Nat) (F : Int → Bool) (e : Ending) (w' : World) : Prop :=
  (∃ b : Nat, b < n ∧ F (b : Int) = true ∧ (∀ y, F y = true → (b : Int) ≤ y) ∧ e = .returned (.tuple #[pairV (b : Int) 1, .int .i64 0]) ∧ ∃ o', SpF w' p o' n (fun x => F x && !(x == (b : Int))) ∧ SpStep w w' p o o') ∨
  ((∀ x, F x = false) ∧ e = .returned (.tuple #[pairV 0 0, .int .i64 42]) ∧ Below w.heap.size w w')
theorem alloc1_any {w : World} {p : Nat} {o : Option Nat} {n : Nat} {F : Int → Bool} (h : SpF w p o n F) :
    Calls Try.prog 34 #[.pointer (some ⟨p, 0, none⟩), .int .i64 1] w (Alloc1Post w p o n F) := by
  obtain ⟨hs, h1, h2⟩ := h
  have hok := h1.ok
  refine (alloc_good p o n 1 hs w h1 (by omega) (by omega)).mono ?_
  rintro e w' (⟨A, h, B, rfl, hA, hc, rfl, o', hsp, hst⟩ | ⟨hno, rfl, hb⟩)
  · have hA0 : A = [] := by
      cases A with
      | nil => rfl
      | cons a r =>
        have := hA a (by simp)
        obtain ⟨_, k2, _⟩ := hok
        omega
    subst hA0
    obtain ⟨k1, k2, k3, k4⟩ := hok
    obtain ⟨b, hb⟩ := Int.eq_ofNat_of_zero_le k1
    obtain ⟨f, c⟩ := h
    simp only at hb k1 k2 k3 k4 hc
    subst hb
    refine .inl ⟨b, by omega, ?_, ?_, rfl, o', ⟨_, hsp, ?_⟩, hst⟩
    · rw [← h2, List.nil_append, freeB_cons]
      simp
      left
      omega
    · intro y hy
      rw [← h2, List.nil_append, freeB_cons, Bool.or_eq_true] at hy
      rcases hy with hy | hy
      · simp at hy
        omega
      · have := free_from k4 y hy
        omega
    · intro x
      show _ = (F x && !(x == (b : Int)))
      rw [← h2]
      simp only [List.nil_append, restF]
      rw [if_neg (by omega)]
      have hB : freeB B x = true → (b : Int) + c + 1 ≤ x := fun hx => (free_from k4 x hx).1
      by_cases hc1 : (b : Int) + 1 < (b : Int) + c
      · rw [if_pos hc1]
        simp only [List.nil_append, List.singleton_append, freeB_cons]
        cases hx : freeB B x with
        | true =>
          have := hB hx
          have hne : x ≠ (b : Int) := by omega
          simp [hne]
        | false =>
          by_cases e1 : x = (b : Int)
          · subst e1
            simp
            omega
          · simp only [Bool.or_false]
            have hxb : (x == (b : Int)) = false := beq_eq_false_iff_ne.mpr e1
            rw [hxb]
            simp
            rw [Bool.eq_iff_iff]
            simp only [Bool.and_eq_true, decide_eq_true_eq]
            omega
      · rw [if_neg hc1]
        simp only [List.nil_append, freeB_cons]
        cases hx : freeB B x with
        | true =>
          have := hB hx
          have hne : x ≠ (b : Int) := by omega
          simp [hne]
        | false =>
          by_cases e1 : x = (b : Int)
          · subst e1
            simp
          · have hxb : (x == (b : Int)) = false := beq_eq_false_iff_ne.mpr e1
            rw [hxb]
            simp
            omega
  · refine .inr ⟨fun x => ?_, rfl, hb⟩
    have : hs = [] := by
      cases hs with
      | nil => rfl
      | cons a r =>
        have := hno a (by simp)
        obtain ⟨_, k2, _⟩ := hok
        omega
    rw [← h2, this]
    rfl
def free1F (n : Nat) (F : Int → Bool) (b x : Int) : Bool := F x || (decide (0 ≤ b ∧ b < n) && x == b)
def Free1Post (w : World) (p : Nat) (o : Option Nat) (n : Nat) (F : Int → Bool) (b : Int) (e : Ending) (w' : World) : Prop :=
  ∃ (r : Int) (o' : Option Nat), e = .returned (.int .i64 r) ∧ SpF w' p o' n (free1F n F b) ∧ SpStep w w' p o o' ∧
    r = (if 0 ≤ b ∧ b < n then (if F b = true then 44 else 0) else 43)
theorem below_step {w w' : World} {p : Nat} {o : Option Nat} (hb : Below w.heap.size w w') : SpStep w w' p o o := ⟨Upd.of_new hb, fun _ h => .inl h⟩
theorem free1_any {w : World} {p : Nat} {o : Option Nat} {n : Nat} {F : Int → Bool} (h : SpF w p o n F) (b : Int) :
    Calls Try.prog 39 #[.pointer (some ⟨p, 0, none⟩), .agg #[.int .i64 b, .int .i64 1]] w (Free1Post w p o n F b) := by
  obtain ⟨hs, h1, h2⟩ := h
  refine (free_any p o n b 1 hs w h1).mono ?_
  rintro e w' (⟨hin, rfl, hb⟩ | ⟨hin, ⟨x, hx1, hx2, hx⟩, rfl, hb⟩ | ⟨hin, hno, hs', hok', hf, rfl, o', hsp, hst⟩)
  · have hn : ¬ (0 ≤ b ∧ b < n) := fun hh => by
      simp [insideB] at hin
      omega
    exact ⟨43, o, rfl, ⟨hs, h1.below hb, fun x => by unfold free1F; rw [h2, decide_eq_false hn]; simp⟩, below_step hb, by rw [if_neg hn]⟩
  · have hb' : 0 ≤ b ∧ b < n := by
      simp [insideB] at hin
      omega
    have e1 : x = b := by omega
    subst e1
    rw [h2] at hx
    exact ⟨44, o, rfl, ⟨hs, h1.below hb, fun y => by
      unfold free1F
      rw [h2]
      by_cases e : y = x
      · subst e
        rw [hx]
        rfl
      · simp [e]⟩, below_step hb, by rw [if_pos hb', if_pos hx]⟩
  · have hb' : 0 ≤ b ∧ b < n := by
      simp [insideB] at hin
      omega
    have hx := hno b (by omega) (by omega)
    rw [h2] at hx
    refine ⟨0, o', rfl, ⟨hs', hsp, fun y => ?_⟩, hst, by rw [if_pos hb', if_neg (by rw [hx]; simp)]⟩
    unfold free1F
    rw [hf, h2, decide_eq_true hb', Bool.true_and]
    congr 1
    by_cases e : y = b
    · subst e
      simp
      omega
    · have e2 : (y == b) = false := beq_eq_false_iff_ne.mpr e
      rw [e2]
      simp
      omega
end Go.Proofs.Ytkhejipcclpknaa
