/- For every int and every two slices of ints that are together of bulk at most 1048576 ExtentApart returns true, whatever the world. -/
import Derived.Test.YtedalcocdgmigaaRows
import Derived.Test.YtedalcocdgmigaaApB
import Derived.WalkKit
import Derived.ProofKit
import Derived.OpenShut
import Derived.Below
import Derived.Carry
import Derived.JoinedCond
namespace Go.Proofs.Ytedalcocdgmigaa.extentApart
open Go.ChangeShapes Go.WideShapes Go.ChangeAt Go.RowKit
set_option linter.unusedVariables false
set_option linter.unusedSimpArgs false
theorem length_le {H : Type} (l : List (DataW H)) : l.length ≤ Rows.uptoBulkAll l := by
  have one_le : ∀ d : DataW H, 1 ≤ Rows.uptoBulk d := by
    intro d
    cases d with
    | lit l => cases l <;> simp [Rows.uptoBulk]
    | nil => simp [Rows.uptoBulk]
    | ptr d => simp [Rows.uptoBulk]
    | slice elems spare => simp [Rows.uptoBulk]
    | agg parts => simp [Rows.uptoBulk]
    | iface t d => simp [Rows.uptoBulk]
    | map entries => simp [Rows.uptoBulk]
    | held h => simp [Rows.uptoBulk]
  induction l with
  | nil => simp [Rows.uptoBulkAll]
  | cons x r ih => have := one_le x; simp only [Rows.uptoBulkAll, List.length_cons]; omega
/-- A slice of ints that came in, and its length against the bulk. -/
theorem ints_bulk {H : Type} {enc : TypeId × Value → H} {W : World} {base : Nat} {v : Value} {d : DataW H} {ps : List MemPlace} (hv : Value.okWide Try.prog W .any base 35 v)
    (h : DataW.Trod enc Try.prog W 0 (fun _ => true) true 35 v d ps) : ∃ a len cap xs, v = .slice a len cap ∧ IntsIn W a len xs ∧ len < Rows.uptoBulk d := by
  obtain ⟨a, len, cap, xs, rfl, hin⟩ := ints_in hv h
  refine ⟨a, len, cap, xs, rfl, hin, ?_⟩
  obtain ⟨fuel, hf⟩ := h
  rcases open_ints Try.underlying35 Try.underlying3 cellsInt hf with ⟨hcs, hx⟩ | ⟨a', len', cap', zs, hcs, _, hl, hm, hz, hx, _⟩
  · simp [Value.cells] at hcs
    obtain ⟨rfl, rfl, rfl⟩ := hcs
    obtain ⟨rfl, _⟩ := Prod.mk.inj hx
    simp [Rows.uptoBulk]
  · simp [Value.cells] at hcs
    obtain ⟨rfl, rfl, rfl⟩ := hcs
    simp only [if_true] at hz
    obtain ⟨rfl, _⟩ := Prod.mk.inj hx
    have h1 := length_le (H := H) (lits .i64 (zs.take len))
    have h2 : (lits (H := H) .i64 (zs.take len)).length = len := by simp [lits]; omega
    simp only [Rows.uptoBulk]
    omega
theorem own : ownKnob Try.prog.godebug = none := by kernel_rfl
set_option maxRecDepth 100000 in
theorem lifted (os : Os) (started : os.Started) (H : Type) (enc : TypeId × Value → H) (F : Stop.Interp) :
    ReturnsInHanded {} Try.checked os 5 .any ((Rows.OpenSpec.upto Rows.extentApartSpec).pre6 enc Try.prog Try.f5 Rows.extentApartUptoRow.domain false) (((Rows.OpenSpec.upto Rows.extentApartSpec).at F).post enc Try.prog Try.f5 false true false false) := by
  refine returnsInHanded_of_cond (C := Try.checked) (s := Rows.OpenSpec.upto Rows.extentApartSpec) (k := Rows.uptoSmall) rfl own started (by kernel_rfl) Try.func5
    (OpenSpec.witness (enc := enc) (C := Try.checked) (s := Rows.OpenSpec.upto Rows.extentApartSpec) (k := Rows.uptoSmall) rfl false ⟨#[], #[.int .i64 0, .slice none 0 0, .slice none 0 0], []⟩ 8 (by kernel_rfl) (by kernel_rfl) (by kernel_rfl) (x := ([.lit (.int .i64 0), .nil, .nil], [], [])) (by kernel_rfl) rfl (by kernel_rfl)) ?_
  intro W base args ds gs before hval0 hW hcnd hk0 _
  have hval : ∀ (j : Nat) t v, Try.f5.params[j]? = some t → args[j]? = some v → Value.okWide Try.prog W .any base t v := hval0
  have hW' := hW
  obtain ⟨p, q, hA0, hV, rfl, hfz, hnd⟩ := hW
  have hA : DataW.TrodAll enc Try.prog W 0 (fun _ => true) true Try.f5.params.toList args.toList ds p := hA0
  rw [Try.params5] at hA hval
  obtain ⟨v0, vs0, d0, ds0, p0, q0, hargs, rfl, rfl, h0, r0⟩ := trodAll_cons hA
  obtain ⟨v1, vs1, d1, ds1, p1, q1, rfl, rfl, rfl, h1, r1⟩ := trodAll_cons r0
  obtain ⟨v2, vs2, d2, ds2, p2, q2, rfl, rfl, rfl, h2, r2⟩ := trodAll_cons r1
  obtain ⟨rfl, rfl, rfl⟩ := trodAll_nil r2
  obtain rfl : args = #[v0, v1, v2] := by cases args; simp_all
  obtain ⟨rfl, rfl⟩ := trodVars_none hV
  have hlt := fun x hx => hW'.lt x hx
  simp only [List.append_nil] at hk0
  have hkb : Rows.uptoBulkAll [d0, d1, d2] ≤ 1048576 := of_decide_eq_true hk0
  simp only [Rows.uptoBulkAll] at hkb
  obtain ⟨a0, rfl, rfl, rfl, w0⟩ := open_int Try.underlying3 (hval 0 3 v0 rfl rfl) h0
  have bd0 := bounds_i64 w0
  have ht1 : ∀ (W' : World), Below W.heap.size W W' → DataW.Trod enc Try.prog W' 0 (fun b => decide (b < W.heap.size)) true 35 v1 d1 p1 :=
    fun W' hn => Below.trod laidOutT (by kernel_rfl) (of_decide_eq_true (by kernel_rfl)) h1 hn (fun x hx => by simpa using hlt x (by simp [hx]))
  obtain ⟨a1, len1, cap1, xs1, rfl, hin1, hbk1⟩ := ints_bulk (hval 1 35 v1 rfl rfl) h1
  have ht2 : ∀ (W' : World), Below W.heap.size W W' → DataW.Trod enc Try.prog W' 0 (fun b => decide (b < W.heap.size)) true 35 v2 d2 p2 :=
    fun W' hn => Below.trod laidOutT (by kernel_rfl) (of_decide_eq_true (by kernel_rfl)) h2 hn (fun x hx => by simpa using hlt x (by simp [hx]))
  obtain ⟨a2, len2, cap2, xs2, rfl, hin2, hbk2⟩ := ints_bulk (hval 2 35 v2 rfl rfl) h2
  clear hA0 hval0 hlt
  refine (apart_walk a0 a1 len1 cap1 xs1 a2 len2 cap2 xs2 W hin1 hin2 (by omega)).mono fun e W' ⟨he, bel⟩ => ?_
  subst he
  exact ⟨_, rfl, _, _, _, [], _, [], hW', trodAll_mk1 (shut_bool Try.underlying4 _), (trodAll_cons_mk (shut_int Try.underlying3 w0) (trodAll_cons_mk (ht1 W' bel) (trodAll_cons_mk (ht2 W' bel) trodAll_mk0))), rfl, bel.frame _, fun h => by cases h⟩
theorem over : Rows.extentApartUptoRow.holds Try.pinned (Rows.OpenSpec.upto Rows.extentApartSpec) :=
  OpenClaim.holds_of_cond 5 Try.f5 rfl rfl rfl rfl rfl rfl rfl ⟨rfl, rfl, rfl, rfl, rfl⟩ rfl rfl rfl rfl rfl (by kernel_rfl) Try.func5 (by kernel_rfl)
    (of_decide_eq_true (by kernel_rfl)) (by unfold Func.isWrapper; first | (rw [if_pos (by decide +kernel)]; kernel_rfl) | (rw [if_neg (by decide +kernel)]; exact ⟨rfl, rfl⟩))
    (fun os started H enc _ F => lifted os started H enc F)
theorem proved : Rows.ExtentApartUptoSaid := over
#print axioms proved
end Go.Proofs.Ytedalcocdgmigaa.extentApart
namespace Go.Proofs.Ytedalcocdgmigaa
/-- The row, under a short name, for the claim. -/
theorem extentApartUpto_holds : Rows.ExtentApartUptoSaid := extentApart.proved
end Go.Proofs.Ytedalcocdgmigaa
