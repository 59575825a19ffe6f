/- Valid, the document's Valid and Before, same. No statement is proved here. -/
import Derived.Test.YtgimpkbknaopcaaVA
set_option linter.unusedVariables false
set_option linter.unusedSimpArgs false
namespace Go.Proofs.Ytgimpkbknaopcaa
open Go.RowKit

def inB (n a b : Int) : Bool := decide (a ≤ n) && decide (n ≤ b)
theorem within_any (n a b : Int) (w : World) : Calls Try.prog 23 #[.int .i64 n, .int .i64 a, .int .i64 b] w fun e w' => e = .returned (.bool (inB n a b)) ∧ w' = w := by
  by_cases h1 : a ≤ n
  · by_cases h2 : n ≤ b
    · have e1 : inB n a b = true := by simp [inB, h1, h2]
      rw [e1]
      have d1 : decide (a ≤ n) = true := decide_eq_true h1
      have d2 : decide (n ≤ b) = true := decide_eq_true h2
      go_enter Try.func23, Try.ntmps23
      go_wp2
      go_ret
      exact ⟨rfl, rfl⟩
    · have e1 : inB n a b = false := by simp [inB, h1]; omega
      rw [e1]
      have d1 : decide (a ≤ n) = true := decide_eq_true h1
      have d2 : decide (n ≤ b) = false := decide_eq_false h2
      go_enter Try.func23, Try.ntmps23
      go_wp2
      go_ret
      exact ⟨rfl, rfl⟩
  · have e1 : inB n a b = false := by simp [inB, h1]
    rw [e1]
    have d1 : decide (a ≤ n) = false := decide_eq_false h1
    go_enter Try.func23, Try.ntmps23
    go_wp2
    go_ret
    exact ⟨rfl, rfl⟩

theorem ba_loop (s : ByteArray) : ∀ (n i : Nat) (r : List UInt8), s.size - i = n → (ByteArray.toList.loop s i r).length = r.length + n := by
  intro n
  induction n with
  | zero => intro i r h; unfold ByteArray.toList.loop; rw [if_neg (by omega)]; simp
  | succ n ih => intro i r h; unfold ByteArray.toList.loop; rw [if_pos (by omega), ih _ _ (by omega)]; simp; omega
theorem ba_empty (s : ByteArray) : s.toList.isEmpty = (s.size == 0) := by
  have h : s.toList.length = s.size := by
    unfold ByteArray.toList
    rw [ba_loop s s.size 0 [] (by omega)]
    simp
  rw [← h]
  cases s.toList <;> simp

def validB (v : V) : Bool := inB v.kind 1 10 && inB v.time 0 1099511627776 && inB v.frm 0 1099511627776 && inB v.to 0 1099511627776 && inB v.txn 0 4095 && inB v.wit (-1) 4095 && inB v.op (-1) 15 &&
  decide (v.key.size ≤ 8) && decide (v.exp.size ≤ 16) && decide (v.obs.size ≤ 16) && (v.want || v.exp.size == 0) && (v.got || v.obs.size == 0)

set_option maxHeartbeats 4000000 in
set_option maxRecDepth 100000 in
theorem valid_any (v : V) (w : World) : Calls Try.prog 18 #[v.agg] w fun e w' => e = .returned (.bool (validB v)) ∧ Below w.heap.size w w' := by
  by_cases h0n : inB v.kind 1 10 = false
  · have hv : validB v = false := by simp [validB, h0n]
    rw [hv]
    clear hv
    go_enter Try.func18, Try.ntmps18
    go_wp2_with (go_at_call 23; refine (within_any _ _ _ _).mono ?_; rintro e w' ⟨rfl, rfl⟩)
    go_ret
    exact ⟨rfl, (Below.refl _ _).alloc (Nat.le_refl _) _⟩
  have h0 : inB v.kind 1 10 = true := by simpa using h0n
  clear h0n
  by_cases h1n : inB v.time 0 1099511627776 = false
  · have hv : validB v = false := by simp [validB, h1n]
    rw [hv]
    clear hv
    go_enter Try.func18, Try.ntmps18
    go_wp2_with (go_at_call 23; refine (within_any _ _ _ _).mono ?_; rintro e w' ⟨rfl, rfl⟩)
    go_ret
    exact ⟨rfl, (Below.refl _ _).alloc (Nat.le_refl _) _⟩
  have h1 : inB v.time 0 1099511627776 = true := by simpa using h1n
  clear h1n
  by_cases h2n : inB v.frm 0 1099511627776 = false
  · have hv : validB v = false := by simp [validB, h2n]
    rw [hv]
    clear hv
    go_enter Try.func18, Try.ntmps18
    go_wp2_with (go_at_call 23; refine (within_any _ _ _ _).mono ?_; rintro e w' ⟨rfl, rfl⟩)
    go_ret
    exact ⟨rfl, (Below.refl _ _).alloc (Nat.le_refl _) _⟩
  have h2 : inB v.frm 0 1099511627776 = true := by simpa using h2n
  clear h2n
  by_cases h3n : inB v.to 0 1099511627776 = false
  · have hv : validB v = false := by simp [validB, h3n]
    rw [hv]
    clear hv
    go_enter Try.func18, Try.ntmps18
    go_wp2_with (go_at_call 23; refine (within_any _ _ _ _).mono ?_; rintro e w' ⟨rfl, rfl⟩)
    go_ret
    exact ⟨rfl, (Below.refl _ _).alloc (Nat.le_refl _) _⟩
  have h3 : inB v.to 0 1099511627776 = true := by simpa using h3n
  clear h3n
  by_cases h4n : inB v.txn 0 4095 = false
  · have hv : validB v = false := by simp [validB, h4n]
    rw [hv]
    clear hv
    go_enter Try.func18, Try.ntmps18
    go_wp2_with (go_at_call 23; refine (within_any _ _ _ _).mono ?_; rintro e w' ⟨rfl, rfl⟩)
    go_ret
    exact ⟨rfl, (Below.refl _ _).alloc (Nat.le_refl _) _⟩
  have h4 : inB v.txn 0 4095 = true := by simpa using h4n
  clear h4n
  by_cases h5n : inB v.wit (-1) 4095 = false
  · have hv : validB v = false := by simp [validB, h5n]
    rw [hv]
    clear hv
    go_enter Try.func18, Try.ntmps18
    go_wp2_with (go_at_call 23; refine (within_any _ _ _ _).mono ?_; rintro e w' ⟨rfl, rfl⟩)
    go_ret
    exact ⟨rfl, (Below.refl _ _).alloc (Nat.le_refl _) _⟩
  have h5 : inB v.wit (-1) 4095 = true := by simpa using h5n
  clear h5n
  by_cases h6n : inB v.op (-1) 15 = false
  · have hv : validB v = false := by simp [validB, h6n]
    rw [hv]
    clear hv
    go_enter Try.func18, Try.ntmps18
    go_wp2_with (go_at_call 23; refine (within_any _ _ _ _).mono ?_; rintro e w' ⟨rfl, rfl⟩)
    go_ret
    exact ⟨rfl, (Below.refl _ _).alloc (Nat.le_refl _) _⟩
  have h6 : inB v.op (-1) 15 = true := by simpa using h6n
  clear h6n
  by_cases l0 : v.key.size ≤ 8
  case neg =>
    have l0d : decide ((8 : Int) < (v.key.size : Int)) = true := decide_eq_true (by omega)
    have hv : validB v = false := by simp [validB, l0]
    rw [hv]
    clear hv
    go_enter Try.func18, Try.ntmps18
    go_wp2_with (go_at_call 23; refine (within_any _ _ _ _).mono ?_; rintro e w' ⟨rfl, rfl⟩)
    go_ret
    exact ⟨rfl, (Below.refl _ _).alloc (Nat.le_refl _) _⟩
  have l0d : decide ((8 : Int) < (v.key.size : Int)) = false := decide_eq_false (by omega)
  by_cases l1 : v.exp.size ≤ 16
  case neg =>
    have l1d : decide ((16 : Int) < (v.exp.size : Int)) = true := decide_eq_true (by omega)
    have hv : validB v = false := by simp [validB, l1]
    rw [hv]
    clear hv
    go_enter Try.func18, Try.ntmps18
    go_wp2_with (go_at_call 23; refine (within_any _ _ _ _).mono ?_; rintro e w' ⟨rfl, rfl⟩)
    go_ret
    exact ⟨rfl, (Below.refl _ _).alloc (Nat.le_refl _) _⟩
  have l1d : decide ((16 : Int) < (v.exp.size : Int)) = false := decide_eq_false (by omega)
  by_cases l2 : v.obs.size ≤ 16
  case neg =>
    have l2d : decide ((16 : Int) < (v.obs.size : Int)) = true := decide_eq_true (by omega)
    have hv : validB v = false := by simp [validB, l2]
    rw [hv]
    clear hv
    go_enter Try.func18, Try.ntmps18
    go_wp2_with (go_at_call 23; refine (within_any _ _ _ _).mono ?_; rintro e w' ⟨rfl, rfl⟩)
    go_ret
    exact ⟨rfl, (Below.refl _ _).alloc (Nat.le_refl _) _⟩
  have l2d : decide ((16 : Int) < (v.obs.size : Int)) = false := decide_eq_false (by omega)
  have e1 := ba_empty v.exp
  have e2 := ba_empty v.obs
  by_cases w0 : v.want = true ∨ v.exp.size = 0
  case neg =>
    have w1 : v.want = false := by cases hw : v.want <;> simp_all
    have w2 : ¬ v.exp.size = 0 := fun h => w0 (.inr h)
    have w3 : v.exp.toList.isEmpty = false := by rw [e1]; simp [w2]
    clear w0 e1 e2
    have hv : validB v = false := by simp [validB, h0, h1, h2, h3, h4, h5, h6, l0, l1, l2, w1, w2]
    rw [hv]
    clear hv
    go_enter Try.func18, Try.ntmps18
    go_wp2_with (go_at_call 23; refine (within_any _ _ _ _).mono ?_; rintro e w' ⟨rfl, rfl⟩)
    go_ret
    exact ⟨rfl, (Below.refl _ _).alloc (Nat.le_refl _) _⟩
  by_cases g0 : v.got = true ∨ v.obs.size = 0
  case neg =>
    have g1 : v.got = false := by cases hw : v.got <;> simp_all
    have g2 : ¬ v.obs.size = 0 := fun h => g0 (.inr h)
    have g3 : v.obs.toList.isEmpty = false := by rw [e2]; simp [g2]
    clear g0 e2
    by_cases w1 : v.want = true
    · clear w0 e1
      have hv : validB v = false := by simp [validB, h0, h1, h2, h3, h4, h5, h6, l0, l1, l2, w1, g1, g2]
      rw [hv]
      clear hv
      go_enter Try.func18, Try.ntmps18
      go_wp2_with (go_at_call 23; refine (within_any _ _ _ _).mono ?_; rintro e w' ⟨rfl, rfl⟩)
      go_ret
      exact ⟨rfl, (Below.refl _ _).alloc (Nat.le_refl _) _⟩
    · have w1' : v.want = false := by cases hw : v.want <;> simp_all
      have w2 : v.exp.size = 0 := by simpa [w1'] using w0
      have w3 : v.exp.toList.isEmpty = true := by rw [e1]; simp [w2]
      clear w0 e1 w1
      have hv : validB v = false := by simp [validB, h0, h1, h2, h3, h4, h5, h6, l0, l1, l2, w1', w2, g1, g2]
      rw [hv]
      clear hv
      go_enter Try.func18, Try.ntmps18
      go_wp2_with (go_at_call 23; refine (within_any _ _ _ _).mono ?_; rintro e w' ⟨rfl, rfl⟩)
      go_ret
      exact ⟨rfl, (Below.refl _ _).alloc (Nat.le_refl _) _⟩
  have hv : validB v = true := by
    rcases w0 with w0 | w0 <;> rcases g0 with g0 | g0 <;> simp [validB, h0, h1, h2, h3, h4, h5, h6, l0, l1, l2, w0, g0]
  rw [hv]
  clear hv
  have w3 : v.exp.toList.isEmpty = true ∨ v.want = true := by rcases w0 with w0 | w0; exact .inr w0; left; rw [e1]; simp [w0]
  have g3 : v.obs.toList.isEmpty = true ∨ v.got = true := by rcases g0 with g0 | g0; exact .inr g0; left; rw [e2]; simp [g0]
  clear w0 g0 e1 e2
  by_cases ww : v.want = true
  · clear w3
    by_cases gg : v.got = true
    · clear g3
      go_enter Try.func18, Try.ntmps18
      go_wp2_with (go_at_call 23; refine (within_any _ _ _ _).mono ?_; rintro e w' ⟨rfl, rfl⟩)
      go_ret
      exact ⟨rfl, (Below.refl _ _).alloc (Nat.le_refl _) _⟩
    · have gg' : v.got = false := by cases hw : v.got <;> simp_all
      have g4 : v.obs.toList.isEmpty = true := by simpa [gg'] using g3
      clear g3 gg
      go_enter Try.func18, Try.ntmps18
      go_wp2_with (go_at_call 23; refine (within_any _ _ _ _).mono ?_; rintro e w' ⟨rfl, rfl⟩)
      go_ret
      exact ⟨rfl, (Below.refl _ _).alloc (Nat.le_refl _) _⟩
  · have ww' : v.want = false := by cases hw : v.want <;> simp_all
    have w4 : v.exp.toList.isEmpty = true := by simpa [ww'] using w3
    clear w3 ww
    by_cases gg : v.got = true
    · clear g3
      go_enter Try.func18, Try.ntmps18
      go_wp2_with (go_at_call 23; refine (within_any _ _ _ _).mono ?_; rintro e w' ⟨rfl, rfl⟩)
      go_ret
      exact ⟨rfl, (Below.refl _ _).alloc (Nat.le_refl _) _⟩
    · have gg' : v.got = false := by cases hw : v.got <;> simp_all
      have g4 : v.obs.toList.isEmpty = true := by simpa [gg'] using g3
      clear g3 gg
      go_enter Try.func18, Try.ntmps18
      go_wp2_with (go_at_call 23; refine (within_any _ _ _ _).mono ?_; rintro e w' ⟨rfl, rfl⟩)
      go_ret
      exact ⟨rfl, (Below.refl _ _).alloc (Nat.le_refl _) _⟩
end Go.Proofs.Ytgimpkbknaopcaa
