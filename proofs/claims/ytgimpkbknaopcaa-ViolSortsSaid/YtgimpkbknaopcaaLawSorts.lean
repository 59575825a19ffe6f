/- ViolSorts. For any slice of violations, list, with no condition on its length or values, the program of this law returns true and does not panic: Sort answers what the document's sort answers and leaves its argument as it was, Valid tells of each violation what the document tells, Compare tells of each two neighbours, in both orders, what the document's Before tells, and Tally counts them by kind. -/
import Derived.Test.YtgimpkbknaopcaaRows
import Derived.Test.YtgimpkbknaopcaaSorts
import Derived.Test.YtgimpkbknaopcaaVU
import Derived.WalkKit
import Derived.ProofKit
import Derived.OpenShut
import Derived.Below
import Derived.Carry
import Derived.SizedLaws
namespace Go.Proofs.Ytgimpkbknaopcaa.violSorts
open Go.ChangeShapes Go.WideShapes Go.ChangeAt Go.RowKit
set_option linter.unusedVariables false
set_option linter.unusedSimpArgs false
theorem own : ownKnob Try.prog.godebug = none := by kernel_rfl
theorem laidOutT : laidOutB Try.prog = true := by kernel_rfl
set_option maxRecDepth 100000 in
theorem lifted (os : Os) (started : os.Started) (H : Type) (enc : TypeId × Value → H) :
    ReturnsInHanded {} Try.checked os 8 .any (Rows.violSortsSpec.pre6 enc Try.prog Try.f8 Rows.violSortsRow.domain false) (Rows.violSortsSpec.post enc Try.prog Try.f8 false true false false) := by
  refine returnsInHanded_of_change_sized (C := Try.checked) own started (by kernel_rfl) Try.func8
    (ChangeSpec.witness6 (enc := enc) (C := Try.checked) false ⟨#[], #[.slice none 0 0], []⟩ 8 (by kernel_rfl) (by kernel_rfl) (by kernel_rfl) (by kernel_rfl)) ?_
  intro W base args ds gs before hval0 hW hcnd hsz _
  have hval : ∀ (j : Nat) t v, Try.f8.params[j]? = some t → args[j]? = some v → Value.okWide Try.prog W .any base t v := hval0
  have hW' := hW
  obtain ⟨p, q, hA0, hV, rfl, hfz, hnd⟩ := hW
  have hA : DataW.TrodAll enc Try.prog W 0 (fun _ => true) true Try.f8.params.toList args.toList ds p := hA0
  rw [Try.params8] at hA hval
  obtain ⟨v0, vs0, d0, ds0, p0, q0, hargs, rfl, rfl, h0, r0⟩ := trodAll_cons hA
  obtain ⟨rfl, rfl, rfl⟩ := trodAll_nil r0
  obtain rfl : args = #[v0] := by cases args; simp_all
  obtain ⟨rfl, rfl⟩ := trodVars_none hV
  have hlt := fun x hx => hW'.lt x hx
  have ht0 : ∀ (W' : World), Below W.heap.size W W' → DataW.Trod enc Try.prog W' 0 (fun b => decide (b < W.heap.size)) true 28 v0 d0 p0 :=
    fun W' hn => Below.trod laidOutT (by kernel_rfl) (of_decide_eq_true (by kernel_rfl)) h0 hn (fun x hx => by simpa using hlt x (by simp [hx]))
  obtain ⟨a0, cap0, l0, rfl, hin0, _, hcap0, hnil0, hsl0⟩ := viols_in (hval 0 28 v0 rfl rfl) h0
  have hby0 : Try.prog.bytesOf 30 = 120 := by kernel_rfl
  have hz0 : l0.length * 120 ≤ 140737488351232 := by
    rcases hsl0 with h | ⟨el, sp, rfl, hl⟩
    · subst h
      simp
    · have h1 : (el.length + sp.length) * Try.prog.bytesOf 30 ≤ reachBytes := sized_slice hsz (j := 0) (t := 28) (e := 30) rfl rfl Try.underlying28
      rw [hby0, hl] at h1
      have h2 : reachBytes = 140737488351232 := by decide
      have h4 : l0.length * 120 ≤ (l0.length + sp.length) * 120 := Nat.mul_le_mul_right _ (Nat.le_add_right _ _)
      omega
  clear hA0 hval0 hlt hsz
  refine (sorts_walk a0 cap0 l0 W hin0 hcap0 (by omega) hnil0).mono fun e W' ⟨he, bel⟩ => ?_
  subst he
  exact ⟨_, rfl, _, _, _, [], _, [], hW', trodAll_mk1 (shut_bool Try.underlying4 _), (trodAll_cons_mk (ht0 W' bel) trodAll_mk0), rfl, bel.frame _, fun h => by cases h⟩
theorem over : Rows.violSortsRow.holds Try.pinned (OpenSpec.ofChange Rows.violSortsSpec) :=
  OpenClaim.holds_of_wide 8 Try.f8 rfl rfl rfl rfl rfl rfl rfl ⟨rfl, rfl, rfl, rfl, rfl⟩ rfl rfl rfl rfl rfl (by kernel_rfl) Try.func8 (by kernel_rfl)
    (of_decide_eq_true (by kernel_rfl)) (by unfold Func.isWrapper; first | (rw [if_pos (by decide +kernel)]; kernel_rfl) | (rw [if_neg (by decide +kernel)]; exact ⟨rfl, rfl⟩))
    (fun os started H enc _ => lifted os started H enc)
theorem proved : Rows.ViolSortsSaid := over
#print axioms proved
end Go.Proofs.Ytgimpkbknaopcaa.violSorts
namespace Go.Proofs.Ytgimpkbknaopcaa
/-- The row, under a short name, for the claim. -/
theorem violSorts_holds : Rows.ViolSortsSaid := violSorts.proved
end Go.Proofs.Ytgimpkbknaopcaa
