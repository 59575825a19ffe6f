/- StreamApart. For any slice of bytes, input, and any slice of 64-bit integers, turns, with no condition on their lengths or values (an input of more than 4194304 bytes is answered true at once), the program of this law returns true and does not panic: two readers of one device, that has this input, read in turns the numbers of bytes that turns says (an integer below 0 or above 65536 is passed over), and each answers the next bytes of the input from its own place. -/
import Derived.Test.YtkhejipcclpknaaRows
import Derived.Test.YtkhejipcclpknaaSApart
import Derived.Test.YtkhejipcclpknaaInn
import Derived.WalkKit
import Derived.ProofKit
import Derived.OpenShut
import Derived.Below
import Derived.Carry
namespace Go.Proofs.Ytkhejipcclpknaa.streamApart
open Go.ChangeShapes Go.WideShapes Go.ChangeAt Go.RowKit
set_option linter.unusedVariables false
set_option linter.unusedSimpArgs false
theorem own : ownKnob Try.prog.godebug = none := by kernel_rfl
set_option maxRecDepth 100000 in
theorem lifted (os : Os) (started : os.Started) (H : Type) (enc : TypeId × Value → H) :
    ReturnsInHanded {} Try.checked os 4 .any (Rows.streamApartSpec.pre6 enc Try.prog Try.f4 Rows.streamApartRow.domain false) (Rows.streamApartSpec.post enc Try.prog Try.f4 false true false false) := by
  refine returnsInHanded_of_change (C := Try.checked) own started (by kernel_rfl) Try.func4
    (ChangeSpec.witness6 (enc := enc) (C := Try.checked) false ⟨#[], #[.slice none 0 0, .slice none 0 0], []⟩ 8 (by kernel_rfl) (by kernel_rfl) (by kernel_rfl) (by kernel_rfl)) ?_
  intro W base args ds gs before hval0 hW hcnd _
  have hval : ∀ (j : Nat) t v, Try.f4.params[j]? = some t → args[j]? = some v → Value.okWide Try.prog W .any base t v := hval0
  have hW' := hW
  obtain ⟨p, q, hA0, hV, rfl, hfz, hnd⟩ := hW
  have hA : DataW.TrodAll enc Try.prog W 0 (fun _ => true) true Try.f4.params.toList args.toList ds p := hA0
  rw [Try.params4] at hA hval
  obtain ⟨v0, vs0, d0, ds0, p0, q0, hargs, rfl, rfl, h0, r0⟩ := trodAll_cons hA
  obtain ⟨v1, vs1, d1, ds1, p1, q1, rfl, rfl, rfl, h1, r1⟩ := trodAll_cons r0
  obtain ⟨rfl, rfl, rfl⟩ := trodAll_nil r1
  obtain rfl : args = #[v0, v1] := by cases args; simp_all
  obtain ⟨rfl, rfl⟩ := trodVars_none hV
  have hlt := fun x hx => hW'.lt x hx
  have ht0 : ∀ (W' : World), Below W.heap.size W W' → DataW.Trod enc Try.prog W' 0 (fun b => decide (b < W.heap.size)) true 22 v0 d0 p0 :=
    fun W' hn => Below.trod laidOutT (by kernel_rfl) (of_decide_eq_true (by kernel_rfl)) h0 hn (fun x hx => by simpa using hlt x (by simp [hx]))
  obtain ⟨a0, cap0, l0, rfl, hin0, hcap0, hca0, hby0, hml0⟩ := bytes_in (hval 0 22 v0 rfl rfl) h0
  have ht1 : ∀ (W' : World), Below W.heap.size W W' → DataW.Trod enc Try.prog W' 0 (fun b => decide (b < W.heap.size)) true 37 v1 d1 p1 :=
    fun W' hn => Below.trod laidOutT (by kernel_rfl) (of_decide_eq_true (by kernel_rfl)) h1 hn (fun x hx => by simpa using hlt x (by simp [hx]))
  obtain ⟨a1, len1, cap1, xs1, rfl, hin1⟩ := ints_in (hval 1 37 v1 rfl rfl) h1
  clear hA0 hval0 hlt
  refine (apart_walk a0 cap0 l0 a1 len1 cap1 xs1 W hin0 hcap0 hca0 hml0 hin1).mono fun e W' ⟨he, bel⟩ => ?_
  subst he
  exact ⟨_, rfl, _, _, _, [], _, [], hW', trodAll_mk1 (shut_bool Try.underlying4 _), (trodAll_cons_mk (ht0 W' bel) (trodAll_cons_mk (ht1 W' bel) trodAll_mk0)), rfl, bel.frame _, fun h => by cases h⟩
theorem over : Rows.streamApartRow.holds Try.pinned (OpenSpec.ofChange Rows.streamApartSpec) :=
  OpenClaim.holds_of_wide 4 Try.f4 rfl rfl rfl rfl rfl rfl rfl ⟨rfl, rfl, rfl, rfl, rfl⟩ rfl rfl rfl rfl rfl (by kernel_rfl) Try.func4 (by kernel_rfl)
    (of_decide_eq_true (by kernel_rfl)) (by unfold Func.isWrapper; first | (rw [if_pos (by decide +kernel)]; kernel_rfl) | (rw [if_neg (by decide +kernel)]; exact ⟨rfl, rfl⟩))
    (fun os started H enc _ => lifted os started H enc)
theorem proved : Rows.StreamApartSaid := over
#print axioms proved
end Go.Proofs.Ytkhejipcclpknaa.streamApart
namespace Go.Proofs.Ytkhejipcclpknaa
/-- The row, under a short name, for the claim. -/
theorem streamApart_holds : Rows.StreamApartSaid := streamApart.proved
end Go.Proofs.Ytkhejipcclpknaa
