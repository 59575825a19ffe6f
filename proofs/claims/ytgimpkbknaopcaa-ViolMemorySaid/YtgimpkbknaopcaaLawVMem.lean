/- ViolMemory. For any slice of violations, list, with no condition on its length or values (one with no violation, or with more than 100, is answered true at once), the program of this law returns true and does not panic: two lists that Sort answers, two that a Top's List answers and the list handed to Sort are marked and appended to, and none of these writes is seen in another of them, nor in what the Top tells afterwards. -/
import Derived.Test.YtgimpkbknaopcaaRows
import Derived.Test.YtgimpkbknaopcaaVMem
import Derived.Test.YtgimpkbknaopcaaVU
import Derived.WalkKit
import Derived.ProofKit
import Derived.OpenShut
import Derived.Below
import Derived.Carry
namespace Go.Proofs.Ytgimpkbknaopcaa.violMemory
open Go.ChangeShapes Go.WideShapes Go.ChangeAt Go.RowKit
set_option linter.unusedVariables false
set_option linter.unusedSimpArgs false
theorem own : ownKnob Try.prog.godebug = none := by kernel_rfl
theorem laidOutT : laidOutB Try.prog = true := by kernel_rfl
set_option maxRecDepth 100000 in
theorem lifted (os : Os) (started : os.Started) (H : Type) (enc : TypeId × Value → H) :
    ReturnsInHanded {} Try.checked os 7 .any (Rows.violMemorySpec.pre6 enc Try.prog Try.f7 Rows.violMemoryRow.domain false) (Rows.violMemorySpec.post enc Try.prog Try.f7 false true false false) := by
  refine returnsInHanded_of_change (C := Try.checked) own started (by kernel_rfl) Try.func7
    (ChangeSpec.witness6 (enc := enc) (C := Try.checked) false ⟨#[], #[.slice none 0 0], []⟩ 8 (by kernel_rfl) (by kernel_rfl) (by kernel_rfl) (by kernel_rfl)) ?_
  intro W base args ds gs before hval0 hW hcnd _
  have hval : ∀ (j : Nat) t v, Try.f7.params[j]? = some t → args[j]? = some v → Value.okWide Try.prog W .any base t v := hval0
  have hW' := hW
  obtain ⟨p, q, hA0, hV, rfl, hfz, hnd⟩ := hW
  have hA : DataW.TrodAll enc Try.prog W 0 (fun _ => true) true Try.f7.params.toList args.toList ds p := hA0
  rw [Try.params7] at hA hval
  obtain ⟨v0, vs0, d0, ds0, p0, q0, hargs, rfl, rfl, h0, r0⟩ := trodAll_cons hA
  obtain ⟨rfl, rfl, rfl⟩ := trodAll_nil r0
  obtain rfl : args = #[v0] := by cases args; simp_all
  obtain ⟨rfl, rfl⟩ := trodVars_none hV
  have hlt := fun x hx => hW'.lt x hx
  have ht0 : ∀ (W' : World), Below W.heap.size W W' → DataW.Trod enc Try.prog W' 0 (fun b => decide (b < W.heap.size)) true 28 v0 d0 p0 :=
    fun W' hn => Below.trod laidOutT (by kernel_rfl) (of_decide_eq_true (by kernel_rfl)) h0 hn (fun x hx => by simpa using hlt x (by simp [hx]))
  obtain ⟨a0, cap0, l0, rfl, hin0, _, hcap0, hnil0, hsl0⟩ := viols_in (hval 0 28 v0 rfl rfl) h0
  clear hA0 hval0 hlt
  refine (vmem_walk a0 cap0 l0 W hin0 hcap0 hnil0).mono fun e W' ⟨he, bel⟩ => ?_
  subst he
  exact ⟨_, rfl, _, _, _, [], _, [], hW', trodAll_mk1 (shut_bool Try.underlying4 _), (trodAll_cons_mk (ht0 W' bel) trodAll_mk0), rfl, bel.frame _, fun h => by cases h⟩
theorem over : Rows.violMemoryRow.holds Try.pinned (OpenSpec.ofChange Rows.violMemorySpec) :=
  OpenClaim.holds_of_wide 7 Try.f7 rfl rfl rfl rfl rfl rfl rfl ⟨rfl, rfl, rfl, rfl, rfl⟩ rfl rfl rfl rfl rfl (by kernel_rfl) Try.func7 (by kernel_rfl)
    (of_decide_eq_true (by kernel_rfl)) (by unfold Func.isWrapper; first | (rw [if_pos (by decide +kernel)]; kernel_rfl) | (rw [if_neg (by decide +kernel)]; exact ⟨rfl, rfl⟩))
    (fun os started H enc _ => lifted os started H enc)
theorem proved : Rows.ViolMemorySaid := over
#print axioms proved
end Go.Proofs.Ytgimpkbknaopcaa.violMemory
namespace Go.Proofs.Ytgimpkbknaopcaa
/-- The row, under a short name, for the claim. -/
theorem violMemory_holds : Rows.ViolMemorySaid := violMemory.proved
end Go.Proofs.Ytgimpkbknaopcaa
