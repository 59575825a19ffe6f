/- The closure by which List sorts, and the order that it tells. No statement is proved here. -/
import Derived.Test.YtgimpkbknaopcaaVA
import Derived.Sort.Statements
set_option linter.unusedVariables false
set_option linter.unusedSimpArgs false
namespace Go.Proofs.Ytgimpkbknaopcaa
open Go.RowKit
open Go.Sort (SWO)

def encP (p : Pt) : List Value := [.int .i64 p.v.kind, .int .i64 p.v.time, .int .i64 p.v.txn, .int .i64 p.v.op, .int .i64 p.v.wit, .string p.v.key, .bool p.v.want, .string p.v.exp, .bool p.v.got, .string p.v.obs, .int .i64 p.v.frm, .int .i64 p.v.to, .int .i64 p.num]
theorem encP_length (p : Pt) : (encP p).length = 13 := rfl
theorem encP_one (p : Pt) : ∀ v ∈ encP p, v.oneCell' = true := by
  intro v hv
  simp only [encP, List.mem_cons, List.not_mem_nil, or_false] at hv
  rcases hv with rfl | rfl | rfl | rfl | rfl | rfl | rfl | rfl | rfl | rfl | rfl | rfl | rfl <;> rfl
/-- p comes ahead of q. -/
def cfP (p q : Pt) : Int := if behindB q p = true then -1 else 1

set_option maxHeartbeats 1000000 in
set_option maxRecDepth 100000 in
theorem closure_any (p q : Pt) (w : World) : Calls Try.prog 29 #[p.agg, q.agg] w fun e w' => e = .returned (.int .i64 (cfP p q)) ∧ Laid w w' := by
  have c0 : ∀ W : World, Calls Try.prog 25 #[q.agg, p.agg] W fun e w' => e = .returned (.bool (behindB q p)) ∧ Laid W w' := fun W => behind_any q p W
  unfold cfP
  generalize behindB q p = R at *
  have C0 := hid c0
  clear c0
  cases R with
  | true =>
    rw [if_pos rfl]
    go_enter Try.func29, Try.ntmps29
    go_wp2_with fail
    refine (C0.out _).mono ?_
    rintro e w1 ⟨rfl, hb1⟩
    have hb : Laid w w1 := (((Laid.refl _).alloc _).alloc _).trans hb1
    clear hb1
    go_wp2_with fail
    go_ret
    exact ⟨rfl, hb⟩
  | false =>
    rw [if_neg (by simp)]
    go_enter Try.func29, Try.ntmps29
    go_wp2_with fail
    refine (C0.out _).mono ?_
    rintro e w1 ⟨rfl, hb1⟩
    have hb : Laid w w1 := (((Laid.refl _).alloc _).alloc _).trans hb1
    clear hb1
    go_wp2_with fail
    go_ret
    exact ⟨rfl, hb⟩

/-! ### The order -/
theorem cmpI_neg {a b : Int} : cmpI a b < 0 ↔ a < b := by unfold cmpI; split <;> (try split) <;> omega
theorem cmpI_pos {a b : Int} : 0 < cmpI a b ↔ b < a := by unfold cmpI; split <;> (try split) <;> omega
theorem cmpI_zero {a b : Int} : cmpI a b = 0 ↔ a = b := by unfold cmpI; split <;> (try split) <;> omega
/-- x comes ahead of y. -/
def ltV (x y : V) : Prop := x.time < y.time ∨ x.time = y.time ∧ (x.kind < y.kind ∨ x.kind = y.kind ∧ (x.txn < y.txn ∨ x.txn = y.txn ∧ x.op < y.op))
def eqV (x y : V) : Prop := x.time = y.time ∧ x.kind = y.kind ∧ x.txn = y.txn ∧ x.op = y.op
theorem cmpV_pos {x y : V} : 0 < cmpV x y ↔ ltV y x := by
  unfold cmpV ltV orI
  by_cases h1 : cmpI x.time y.time = 0
  · rw [if_pos h1]
    have h1' := cmpI_zero.1 h1
    by_cases h2 : cmpI x.kind y.kind = 0
    · rw [if_pos h2]
      have h2' := cmpI_zero.1 h2
      by_cases h3 : cmpI x.txn y.txn = 0
      · rw [if_pos h3, cmpI_pos]
        have h3' := cmpI_zero.1 h3
        omega
      · rw [if_neg h3, cmpI_pos]
        have h3' : ¬ x.txn = y.txn := fun e => h3 (cmpI_zero.2 e)
        omega
    · rw [if_neg h2, cmpI_pos]
      have h2' : ¬ x.kind = y.kind := fun e => h2 (cmpI_zero.2 e)
      omega
  · rw [if_neg h1, cmpI_pos]
    have h1' : ¬ x.time = y.time := fun e => h1 (cmpI_zero.2 e)
    omega
theorem cmpV_zero {x y : V} : cmpV x y = 0 ↔ eqV x y := by
  unfold cmpV eqV orI
  by_cases h1 : cmpI x.time y.time = 0
  · rw [if_pos h1]
    have h1' := cmpI_zero.1 h1
    by_cases h2 : cmpI x.kind y.kind = 0
    · rw [if_pos h2]
      have h2' := cmpI_zero.1 h2
      by_cases h3 : cmpI x.txn y.txn = 0
      · rw [if_pos h3, cmpI_zero]
        have h3' := cmpI_zero.1 h3
        omega
      · rw [if_neg h3, cmpI_zero]
        have h3' : ¬ x.txn = y.txn := fun e => h3 (cmpI_zero.2 e)
        omega
    · rw [if_neg h2, cmpI_zero]
      have h2' : ¬ x.kind = y.kind := fun e => h2 (cmpI_zero.2 e)
      omega
  · rw [if_neg h1, cmpI_zero]
    have h1' : ¬ x.time = y.time := fun e => h1 (cmpI_zero.2 e)
    omega
/-- p comes ahead of q, as a put. -/
def ltP (p q : Pt) : Prop := ltV p.v q.v ∨ (eqV p.v q.v ∧ p.num < q.num)
theorem behind_iff (p q : Pt) : behindB p q = true ↔ ltP q p := by
  unfold behindB ltP
  rw [Bool.or_eq_true, Bool.and_eq_true, decide_eq_true_eq, decide_eq_true_eq, cmpV_pos, beq_iff_eq, cmpV_zero]
  unfold eqV ltV
  omega
theorem ltP_irrefl (p : Pt) : ¬ ltP p p := by unfold ltP ltV eqV; omega
theorem ltP_trans {p q r : Pt} (h : ltP p q) (k : ltP q r) : ltP p r := by unfold ltP ltV eqV at *; omega
theorem ltP_asymm {p q : Pt} (h : ltP p q) : ¬ ltP q p := by unfold ltP ltV eqV at *; omega
theorem ltP_ntrans {p q r : Pt} (h : ¬ ltP p q) (k : ¬ ltP q r) : ¬ ltP p r := by unfold ltP ltV eqV at *; omega
theorem ltP_total {p q : Pt} (h : p.num ≠ q.num) : ltP p q ∨ ltP q p := by unfold ltP ltV eqV at *; omega
theorem cfP_neg (p q : Pt) : cfP p q < 0 ↔ ltP p q := by
  unfold cfP
  rw [← behind_iff]
  split <;> simp_all
end Go.Proofs.Ytgimpkbknaopcaa
