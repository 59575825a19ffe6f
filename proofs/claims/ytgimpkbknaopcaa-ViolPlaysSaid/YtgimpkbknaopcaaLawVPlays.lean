/- ViolPlays: for every limit and every script of steps, each answer of a Top is what the document tells. No condition. -/
import Derived.Test.YtgimpkbknaopcaaRows
import Derived.Test.YtgimpkbknaopcaaPlB
import Derived.WalkKit
import Derived.ProofKit
import Derived.OpenShut
import Derived.Below
import Derived.Carry
import Derived.SizedLaws
namespace Go.Proofs.Ytgimpkbknaopcaa.violPlays
open Go.ChangeShapes Go.WideShapes Go.ChangeAt Go.RowKit
set_option linter.unusedVariables false
set_option linter.unusedSimpArgs false
theorem own : ownKnob Try.prog.godebug = none := by kernel_rfl
theorem laidOutT : laidOutB Try.prog = true := by kernel_rfl
set_option maxRecDepth 100000 in
theorem lifted (os : Os) (started : os.Started) (H : Type) (enc : TypeId × Value → H) :
    ReturnsInHanded {} Try.checked os 3 .any (Rows.violPlaysSpec.pre6 enc Try.prog Try.f3 Rows.violPlaysRow.domain false) (Rows.violPlaysSpec.post enc Try.prog Try.f3 false true false false) := by
  refine returnsInHanded_of_change_sized (C := Try.checked) own started (by kernel_rfl) Try.func3
    (ChangeSpec.witness6 (enc := enc) (C := Try.checked) false ⟨#[], #[.int .i64 0, .slice none 0 0], []⟩ 8 (by kernel_rfl) (by kernel_rfl) (by kernel_rfl) (by kernel_rfl)) ?_
  intro W base args ds gs before hval0 hW hcnd hsz _
  have hval : ∀ (j : Nat) t v, Try.f3.params[j]? = some t → args[j]? = some v → Value.okWide Try.prog W .any base t v := hval0
  have hW' := hW
  obtain ⟨p, q, hA0, hV, rfl, hfz, hnd⟩ := hW
  have hA : DataW.TrodAll enc Try.prog W 0 (fun _ => true) true Try.f3.params.toList args.toList ds p := hA0
  rw [Try.params3] at hA hval
  obtain ⟨v0, vs0, d0, ds0, p0, q0, hargs, rfl, rfl, h0, r0⟩ := trodAll_cons hA
  obtain ⟨v1, vs1, d1, ds1, p1, q1, rfl, rfl, rfl, h1, r1⟩ := trodAll_cons r0
  obtain ⟨rfl, rfl, rfl⟩ := trodAll_nil r1
  obtain rfl : args = #[v0, v1] := by cases args; simp_all
  obtain ⟨rfl, rfl⟩ := trodVars_none hV
  have hlt := fun x hx => hW'.lt x hx
  obtain ⟨a0, rfl, rfl, rfl, w0⟩ := open_int Try.underlying3 (hval 0 3 v0 rfl rfl) h0
  have bd0 := bounds_i64 w0
  have ht1 : ∀ (W' : World), Below W.heap.size W W' → DataW.Trod enc Try.prog W' 0 (fun b => decide (b < W.heap.size)) true 22 v1 d1 p1 :=
    fun W' hn => Below.trod laidOutT (by kernel_rfl) (of_decide_eq_true (by kernel_rfl)) h1 hn (fun x hx => by simpa using hlt x (by simp [hx]))
  obtain ⟨a1, cap1, l1, rfl, hin1, _, hcap1, hnil1, hsl1⟩ := ops_in (hval 1 22 v1 rfl rfl) h1
  have hby1 : Try.prog.bytesOf 32 = 128 := by kernel_rfl
  have hz1 : l1.length * 128 ≤ 140737488355328 := by
    rcases hsl1 with h | ⟨el, sp, rfl, hl⟩
    · subst h
      simp
    · have h1 : (el.length + sp.length) * Try.prog.bytesOf 32 ≤ reachBytes := sized_slice hsz (j := 1) (t := 22) (e := 32) rfl rfl Try.underlying22
      rw [hby1, hl] at h1
      have h2 := reachBytes_lt
      have h3 : (2 : Nat) ^ 47 = 140737488355328 := by decide
      have h4 : l1.length * 128 ≤ (l1.length + sp.length) * 128 := Nat.mul_le_mul_right _ (Nat.le_add_right _ _)
      omega
  clear hA0 hval0 hlt hsz
  refine (vplays_walk a0 a1 cap1 l1 W hin1 (by omega)).mono fun e W' ⟨he, bel⟩ => ?_
  subst he
  exact ⟨_, rfl, _, _, _, [], _, [], hW', trodAll_mk1 (shut_bool Try.underlying4 _), (trodAll_cons_mk (shut_int Try.underlying3 w0) (trodAll_cons_mk (ht1 W' bel) trodAll_mk0)), rfl, bel.frame _, fun h => by cases h⟩
theorem over : Rows.violPlaysRow.holds Try.pinned (OpenSpec.ofChange Rows.violPlaysSpec) :=
  OpenClaim.holds_of_wide 3 Try.f3 rfl rfl rfl rfl rfl rfl rfl ⟨rfl, rfl, rfl, rfl, rfl⟩ rfl rfl rfl rfl rfl (by kernel_rfl) Try.func3 (by kernel_rfl)
    (of_decide_eq_true (by kernel_rfl)) (by unfold Func.isWrapper; first | (rw [if_pos (by decide +kernel)]; kernel_rfl) | (rw [if_neg (by decide +kernel)]; exact ⟨rfl, rfl⟩))
    (fun os started H enc _ => lifted os started H enc)
theorem proved : Rows.ViolPlaysSaid := over
#print axioms proved
end Go.Proofs.Ytgimpkbknaopcaa.violPlays
namespace Go.Proofs.Ytgimpkbknaopcaa
/-- The row, under a short name, for the claim. -/
theorem violPlays_holds : Rows.ViolPlaysSaid := violPlays.proved
end Go.Proofs.Ytgimpkbknaopcaa
