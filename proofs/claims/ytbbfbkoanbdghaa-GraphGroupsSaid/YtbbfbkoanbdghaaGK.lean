/- Edges as keys of a map. No statement is proved here. -/
import Derived.Test.YtbbfbkoanbdghaaGB
import Derived.Maps.Own
import Derived.Maps.OwnSet
import Derived.DeepKeys5
import Derived.Carry
set_option linter.unusedVariables false
set_option linter.unusedSimpArgs false
namespace Go.Proofs.Ytbbfbkoanbdghaa
open Go.RowKit Go.Maps

theorem laidOutT : laidOutB Try.prog = true := by kernel_rfl
theorem sizeT : ∃ m, Try.prog.types.size = m + 1 ∧ m + 3 ≤ 10000 := ⟨Try.prog.types.size - 1, by kernel_rfl, of_decide_eq_true (by kernel_rfl)⟩
theorem keyTypeE : Try.prog.keyType 29 = true := by kernel_rfl
theorem lawE : Keyed Try.prog 29 := Keyed.of_law (deep_law_gate laidOutT (of_decide_eq_true (by kernel_rfl)) (of_decide_eq_true (by kernel_rfl)) keyTypeE (by kernel_rfl))
def wfE (x : E) : Prop := (Lit.int .i64 x.frm).wf = true ∧ (Lit.int .i64 x.to).wf = true ∧ (Lit.int .i64 x.lab).wf = true
def keyE (x : E) : Lit := .string (keyBytes [.int .i64 x.frm, .int .i64 x.to, .int .i64 x.lab])
theorem cellsOfE : Try.prog.cellsOf 29 = 3 := by kernel_rfl
theorem cellsOfI : Try.prog.cellsOf 3 = 1 := by kernel_rfl
theorem lits_int {m : Nat} {c : Value} : Try.prog.keyLits (m + 1) 3 [c] = (match c with | .int q' n => if q' = .i64 ∧ (Lit.int .i64 n).wf = true then some [.int .i64 n] else none | _ => none) := by
  unfold Program.keyLits
  rw [Try.underlying3]
  cases c <;> rfl
theorem keyOf_E (v : Value) : keyOf Try.prog 29 v = if v.formed Try.prog 29 = true then (Try.prog.keyLits (Try.prog.types.size + 1) 29 v.cells.toList).map fun ls => .string (keyBytes ls) else none := by
  unfold keyOf
  rw [Try.underlying29]
  simp [keyTypeE]
theorem litsE (m : Nat) (a b c : Value) : Try.prog.keyLits (m + 1) 29 [a, b, c] =
    (do let x ← Try.prog.keyLits m 3 [a]; let y ← Try.prog.keyLits m 3 [b]; let z ← Try.prog.keyLits m 3 [c]; pure (x ++ y ++ z)) := by
  conv => lhs; unfold Program.keyLits
  simp only [Try.underlying29]
  simp [cellsOfE, cellsOfI, List.mapM_cons, List.mapM_nil]
  cases Try.prog.keyLits m 3 [a] <;> cases Try.prog.keyLits m 3 [b] <;> cases Try.prog.keyLits m 3 [c] <;> simp
theorem keyE_of {x : E} (h : wfE x) : keyOf Try.prog 29 x.agg = some (keyE x) := by
  obtain ⟨m, hm, _⟩ := sizeT
  rw [keyOf_E, if_pos (by simp [Value.formed, Try.underlying29, cellsOfE])]
  simp only [Value.cells]
  rw [litsE, hm]
  simp [lits_int, h.1, h.2.1, h.2.2, keyE]
theorem len3 {l : List Value} (h : l.length = 3) : ∃ a b c, l = [a, b, c] := by
  match l, h with
  | [a, b, c], _ => exact ⟨a, b, c, rfl⟩
theorem key_edge {v : Value} {kl : Lit} (h : keyOf Try.prog 29 v = some kl) : ∃ x : E, wfE x ∧ v = x.agg ∧ kl = keyE x := by
  obtain ⟨m, hm, _⟩ := sizeT
  have h0 := hid h
  rw [keyOf_E] at h
  by_cases hf : v.formed Try.prog 29 = true
  · rw [if_pos hf] at h
    cases v with
    | agg cs =>
      simp only [Value.formed, Try.underlying29, cellsOfE, beq_iff_eq] at hf
      have hf' : cs.size = 3 := hf
      clear hf
      obtain ⟨l⟩ := cs
      have hl : l.length = 3 := hf'
      clear hf'
      obtain ⟨a, b, c, rfl⟩ := len3 hl
      · simp only [Value.cells] at h
        rw [litsE, hm] at h
        simp only [lits_int] at h
        cases a with
        | int qa na =>
          cases b with
          | int qb nb =>
            cases c with
            | int qc nc =>
              by_cases h1 : qa = .i64 ∧ (Lit.int .i64 na).wf = true
              · by_cases h2 : qb = .i64 ∧ (Lit.int .i64 nb).wf = true
                · by_cases h3 : qc = .i64 ∧ (Lit.int .i64 nc).wf = true
                  · obtain ⟨rfl, w1⟩ := h1
                    obtain ⟨rfl, w2⟩ := h2
                    obtain ⟨rfl, w3⟩ := h3
                    have hw : wfE ⟨na, nb, nc⟩ := ⟨w1, w2, w3⟩
                    have h1 := keyE_of hw
                    rw [show (E.mk na nb nc).agg = .agg ⟨[.int .i64 na, .int .i64 nb, .int .i64 nc]⟩ from rfl, h0.out] at h1
                    exact ⟨⟨na, nb, nc⟩, hw, rfl, Option.some.inj h1⟩
                  · simp [h1, h2, h3] at h
                · simp [h1, h2] at h
              · simp [h1] at h
            | _ => simp at h
          | _ => simp at h
        | _ => simp at h
    | _ => simp [Value.formed, Try.underlying29] at hf
  · rw [if_neg hf] at h
    cases h
theorem agg_inj {x y : E} (h : x.agg = y.agg) : x = y := by
  rcases x with ⟨a, b, c⟩
  rcases y with ⟨a', b', c'⟩
  simp [E.agg] at h
  obtain ⟨rfl, rfl, rfl⟩ := h
  rfl
theorem keyE_inj {x y : E} (hx : wfE x) (hy : wfE y) (h : keyE x = keyE y) : x = y := agg_inj (lawE.inj (keyE_of hx) (h ▸ keyE_of hy))
theorem keyE_lit {x : E} (hx : wfE x) : WideAt.IsKeyLit (keyE x) := lawE.key (keyE_of hx)
/-- The map of block b holds just the edges es, each with a number above nought. -/
def GMap (w : World) (b : Nat) (es : List E) : Prop := ∃ (D : DataW Unit), w.ownsMap Try.prog 29 (plainElem Try.prog 3) b es.length D ∧ Maps.size D = es.length ∧ es.Nodup ∧ (∀ e ∈ es, wfE e) ∧
  (∀ kl, Maps.has D kl = true ↔ ∃ e ∈ es, kl = keyE e) ∧ (∀ e ∈ es, ∃ c : Int, 0 < c ∧ D.atKey (keyE e) (.lit (.int .i64 0)) = .lit (.int .i64 c))
theorem zeroI (w : World) : (zeroValue 3).run Try.prog w = .ok (.int .i64 0) w := by kernel_rfl
theorem gmap_new (w : World) : GMap (w.alloc (.map #[] 0)) w.heap.size [] :=
  ⟨.map [], World.ownsMap_made _ _ _ _, rfl, List.Pairwise.nil, fun e he => by simp at he, fun kl => by simp [Maps.has], fun e he => by simp at he⟩
theorem GMap.lt {w : World} {b : Nat} {es : List E} (h : GMap w b es) : b < w.heap.size := by obtain ⟨D, hown, _⟩ := h; exact hown.lt
theorem GMap.kept {w w' : World} {b : Nat} {es : List E} (h : GMap w b es) (hg : w'.heap[b]? = w.heap[b]?) : GMap w' b es := by
  obtain ⟨D, hown, r⟩ := h
  refine ⟨D, ?_, r⟩
  obtain ⟨es0, clock, hb, rest⟩ := hown
  exact ⟨es0, clock, hg.trans hb, rest⟩
theorem GMap.has {w : World} {b : Nat} {es : List E} (h : GMap w b es) {x : E} (hx : wfE x) : ∃ c : Int, (Instr.lookup 62 (.map (some b)) x.agg false).run Try.prog w = .ok (.int .i64 c) w ∧ (0 < c ↔ x ∈ es) := by
  obtain ⟨D, hown, hsz, hnd, hwf, hhas, hpos⟩ := h
  obtain ⟨c, hrun, hat, _⟩ := hown.lookup_int lawE Try.underlying62 Try.underlying3 (zeroI _) (keyE_of hx)
  refine ⟨c, hrun, ?_⟩
  by_cases hm : x ∈ es
  · obtain ⟨c', h0, h1⟩ := hpos x hm
    rw [h1] at hat
    cases hat
    exact ⟨fun _ => hm, fun _ => h0⟩
  · have hn : Maps.has D (keyE x) = false := by
      cases hh : Maps.has D (keyE x) with
      | false => rfl
      | true =>
        obtain ⟨y, hy, e⟩ := (hhas _).1 hh
        exact absurd (keyE_inj hx (hwf y hy) e ▸ hy) hm
    rw [atKey_of_not_has hn] at hat
    cases hat
    exact ⟨fun h => by omega, fun h => absurd h hm⟩
theorem GMap.len {w : World} {b : Nat} {es : List E} (h : GMap w b es) (ty : TypeId) : (Builtin.len_ #[62] ty #[.map (some b)]).run Try.prog w = .ok (.int .i64 es.length) w := by
  obtain ⟨D, hown, hsz, _⟩ := h
  rw [hown.len Try.underlying62 ty, hsz]
theorem GMap.add {w : World} {b : Nat} {es : List E} (h : GMap w b es) {x : E} (hx : wfE x) (hn : x ∉ es) (hl : es.length ≤ 65536) {c : Int} (hc : 0 < c) (hcw : (Lit.int .i64 c).wf = true) :
    ∃ w', (Instr.mapUpdate 62 (.map (some b)) x.agg (.int .i64 c)).run Try.prog w = .ok () w' ∧ GMap w' b (es ++ [x]) ∧ w.grownBy w' (some b) := by
  obtain ⟨D, hown, hsz, hnd, hwf, hhas, hpos⟩ := h
  obtain ⟨w', hrun, hown', hg⟩ := hown.update lawE Try.underlying62 (by unfold maxLen; omega) (keyE_of hx) (plainElem_int Try.underlying3 hcw)
  have hlit := keyE_lit hx
  have hnh : Maps.has D (keyE x) = false := by
    cases hh : Maps.has D (keyE x) with
    | false => rfl
    | true =>
      obtain ⟨y, hy, e⟩ := (hhas _).1 hh
      exact absurd (keyE_inj hx (hwf y hy) e ▸ hy) hn
  have hM := hown.isMap
  refine ⟨w', hrun, ⟨_, by rw [List.length_append]; exact hown', ?_, ?_, ?_, ?_, ?_⟩, hg⟩
  · rw [size_put (hown.tidy lawE), hnh, hsz]
    simp
  · rw [List.nodup_append]
    refine ⟨hnd, by simp, fun a ha b hb => ?_⟩
    rw [List.mem_singleton] at hb
    subst hb
    exact fun e => hn (e ▸ ha)
  · intro e he
    rcases List.mem_append.1 he with he | he
    · exact hwf e he
    · rw [List.mem_singleton] at he
      subst he
      exact hx
  · intro kl
    by_cases hk : kl = keyE x
    · subst hk
      simp [has_put_same hM hlit]
    · rw [has_put_other hk, hhas]
      constructor
      · rintro ⟨e, he, rfl⟩
        exact ⟨e, List.mem_append_left _ he, rfl⟩
      · rintro ⟨e, he, rfl⟩
        rcases List.mem_append.1 he with he | he
        · exact ⟨e, he, rfl⟩
        · rw [List.mem_singleton] at he
          subst he
          exact absurd rfl hk
  · intro e he
    by_cases hk : keyE e = keyE x
    · rw [hk, atKey_put_same hM hlit]
      exact ⟨c, hc, rfl⟩
    · rw [atKey_put_other hk]
      rcases List.mem_append.1 he with he | he
      · exact hpos e he
      · rw [List.mem_singleton] at he
        subst he
        exact absurd rfl hk
end Go.Proofs.Ytbbfbkoanbdghaa
