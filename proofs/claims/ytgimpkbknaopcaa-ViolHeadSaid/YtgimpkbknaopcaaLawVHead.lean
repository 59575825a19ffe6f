/- ViolHead: the list of a Top with a smaller limit is the beginning of the list of one with a greater limit, in whatever order violations without a tie are put. No condition. -/
import Derived.Test.YtgimpkbknaopcaaRows
import Derived.Test.YtgimpkbknaopcaaHdB
import Derived.WalkKit
import Derived.ProofKit
import Derived.OpenShut
import Derived.Below
import Derived.Carry
import Derived.SizedLaws
namespace Go.Proofs.Ytgimpkbknaopcaa.violHead
open Go.ChangeShapes Go.WideShapes Go.ChangeAt Go.RowKit
set_option linter.unusedVariables false
set_option linter.unusedSimpArgs false
theorem own : ownKnob Try.prog.godebug = none := by kernel_rfl
theorem laidOutT : laidOutB Try.prog = true := by kernel_rfl
set_option maxRecDepth 100000 in
theorem lifted (os : Os) (started : os.Started) (H : Type) (enc : TypeId × Value → H) :
    ReturnsInHanded {} Try.checked os 4 .any (Rows.violHeadSpec.pre6 enc Try.prog Try.f4 Rows.violHeadRow.domain false) (Rows.violHeadSpec.post enc Try.prog Try.f4 false true false false) := by
  refine returnsInHanded_of_change_sized (C := Try.checked) own started (by kernel_rfl) Try.func4
    (ChangeSpec.witness6 (enc := enc) (C := Try.checked) false ⟨#[], #[.slice none 0 0, .int .i64 0, .int .i64 0], []⟩ 8 (by kernel_rfl) (by kernel_rfl) (by kernel_rfl) (by kernel_rfl)) ?_
  intro W base args ds gs before hval0 hW hcnd hsz _
  have hval : ∀ (j : Nat) t v, Try.f4.params[j]? = some t → args[j]? = some v → Value.okWide Try.prog W .any base t v := hval0
  have hW' := hW
  obtain ⟨p, q, hA0, hV, rfl, hfz, hnd⟩ := hW
  have hA : DataW.TrodAll enc Try.prog W 0 (fun _ => true) true Try.f4.params.toList args.toList ds p := hA0
  rw [Try.params4] at hA hval
  obtain ⟨v0, vs0, d0, ds0, p0, q0, hargs, rfl, rfl, h0, r0⟩ := trodAll_cons hA
  obtain ⟨v1, vs1, d1, ds1, p1, q1, rfl, rfl, rfl, h1, r1⟩ := trodAll_cons r0
  obtain ⟨v2, vs2, d2, ds2, p2, q2, rfl, rfl, rfl, h2, r2⟩ := trodAll_cons r1
  obtain ⟨rfl, rfl, rfl⟩ := trodAll_nil r2
  obtain rfl : args = #[v0, v1, v2] := by cases args; simp_all
  obtain ⟨rfl, rfl⟩ := trodVars_none hV
  have hlt := fun x hx => hW'.lt x hx
  have ht0 : ∀ (W' : World), Below W.heap.size W W' → DataW.Trod enc Try.prog W' 0 (fun b => decide (b < W.heap.size)) true 28 v0 d0 p0 :=
    fun W' hn => Below.trod laidOutT (by kernel_rfl) (of_decide_eq_true (by kernel_rfl)) h0 hn (fun x hx => by simpa using hlt x (by simp [hx]))
  obtain ⟨a0, cap0, l0, rfl, hin0, _, hcap0, hnil0, hsl0⟩ := viols_in (hval 0 28 v0 rfl rfl) h0
  have hby0 : Try.prog.bytesOf 30 = 120 := by kernel_rfl
  have hz0 : l0.length * 120 ≤ 140737488355328 := by
    rcases hsl0 with h | ⟨el, sp, rfl, hl⟩
    · subst h
      simp
    · have h1 : (el.length + sp.length) * Try.prog.bytesOf 30 ≤ reachBytes := sized_slice hsz (j := 0) (t := 28) (e := 30) rfl rfl Try.underlying28
      rw [hby0, hl] at h1
      have h2 := reachBytes_lt
      have h3 : (2 : Nat) ^ 47 = 140737488355328 := by decide
      have h4 : l0.length * 120 ≤ (l0.length + sp.length) * 120 := Nat.mul_le_mul_right _ (Nat.le_add_right _ _)
      omega
  obtain ⟨a1, rfl, rfl, rfl, w1⟩ := open_int Try.underlying3 (hval 1 3 v1 rfl rfl) h1
  have bd1 := bounds_i64 w1
  obtain ⟨a2, rfl, rfl, rfl, w2⟩ := open_int Try.underlying3 (hval 2 3 v2 rfl rfl) h2
  have bd2 := bounds_i64 w2
  clear hA0 hval0 hlt hsz
  refine (head_walk a0 cap0 l0 a1 a2 W hin0 (by omega)).mono fun e W' ⟨he, bel⟩ => ?_
  subst he
  exact ⟨_, rfl, _, _, _, [], _, [], hW', trodAll_mk1 (shut_bool Try.underlying4 _), (trodAll_cons_mk (ht0 W' bel) (trodAll_cons_mk (shut_int Try.underlying3 w1) (trodAll_cons_mk (shut_int Try.underlying3 w2) trodAll_mk0))), rfl, bel.frame _, fun h => by cases h⟩
theorem over : Rows.violHeadRow.holds Try.pinned (OpenSpec.ofChange Rows.violHeadSpec) :=
  OpenClaim.holds_of_wide 4 Try.f4 rfl rfl rfl rfl rfl rfl rfl ⟨rfl, rfl, rfl, rfl, rfl⟩ rfl rfl rfl rfl rfl (by kernel_rfl) Try.func4 (by kernel_rfl)
    (of_decide_eq_true (by kernel_rfl)) (by unfold Func.isWrapper; first | (rw [if_pos (by decide +kernel)]; kernel_rfl) | (rw [if_neg (by decide +kernel)]; exact ⟨rfl, rfl⟩))
    (fun os started H enc _ => lifted os started H enc)
theorem proved : Rows.ViolHeadSaid := over
#print axioms proved
end Go.Proofs.Ytgimpkbknaopcaa.violHead
namespace Go.Proofs.Ytgimpkbknaopcaa
/-- The row, under a short name, for the claim. -/
theorem violHead_holds : Rows.ViolHeadSaid := violHead.proved
end Go.Proofs.Ytgimpkbknaopcaa
