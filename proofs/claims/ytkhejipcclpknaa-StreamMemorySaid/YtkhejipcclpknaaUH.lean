/- Readers side by side; guarded operations that only read. No statement is proved here. -/
import Derived.Test.YtkhejipcclpknaaUF
import Derived.Test.YtkhejipcclpknaaInn
import Derived.StillTailTactics
set_option linter.unusedVariables false
set_option linter.unusedSimpArgs false
namespace Go.Proofs.Ytkhejipcclpknaa
open Go.RowKit

structure Held (p : Prop) : Prop where
  out : p
section
variable {P : Program} {ops : Array Oper} {w : World} {Q : Act → Prop} {a : Act} {o : Oper} {rest : List Oper}
theorem wpStill_held {l : List Oper} (h : Held (wpStill P ops w Q l a)) : wpStill P ops w Q l a := h.out
theorem held_nil (h : Q a) : Held (wpStill P ops w Q [] a) := ⟨h⟩
theorem held_off (h : Region.wanted o (yielded ops a.tmps) = false) (hs : ∀ K : Act → Prop, (∀ a, Held (wpStill P ops w Q rest a) → K a) → K (a.put o.dst undef)) : Held (wpStill P ops w Q (o :: rest) a) := by
  have := (hs (fun a => Held (wpStill P ops w Q rest a)) (fun _ h => h)).out
  refine ⟨?_⟩
  simp only [wpStill, h]
  exact this
theorem held_on (h : Region.wanted o (yielded ops a.tmps) = true) (hs : ∀ K : Act → Prop, (∀ a, Held (wpStill P ops w Q rest a) → K a) → o.still P a w K) : Held (wpStill P ops w Q (o :: rest) a) := by
  have := hs (wpStill P ops w Q rest) (fun _ h => h.out)
  refine ⟨?_⟩
  simp only [wpStill, h]
  exact this
end
/-- A reader beside another one that reads. -/
theorem ROn.other {w w' : World} {p q : Nat} {d : Dl} {oc o oc' o' o1 : Option Nat} {R : Rd} {D D' : Dv} {c : List Int} {ch : Bool} {m : Int} (h : ROn w p d oc o R D c) (st : RhStep w w' q d oc' o' o1) (hx : ∀ k, rS p oc o k → ¬ rS q oc' o' k) (k : RSt ch m D D') (hd : DvM w' d D') : ROn w' p d oc o R D' c :=
  ⟨⟨h.mem.rd.upd st.up fun b hb hh => hh.elim (hx b hb) (h.mem.ap b hb), hd, h.mem.ap⟩, h.good.keep k, h.fa, by rw [k.un]; exact h.hh⟩
theorem hd_le {u a : Nat} : -1 ≤ hd u a ∧ hd u a ≤ (a : Int) := by
  unfold hd
  split
  · omega
  · have h1 := Nat.div_le_self (a - 1) u
    obtain ⟨q, hq⟩ : ∃ q, q = (a - 1) / u := ⟨_, rfl⟩
    rw [← hq] at h1 ⊢
    omega
/-- Two readers of one input, and what they have told. -/
structure Duo (w : World) (d : Dl) (D : Dv) (c : List Int) (B : Nat) (p : Nat → Nat) (o : Nat → Option Nat) (R : Nat → Rd) : Prop where
  on : ∀ k, k < 2 → ROn w (p k) d none (o k) (R k) D c
  ch : ∀ k, k < 2 → (R k).chain = none
  ap : ∀ j k, j < 2 → k < 2 → j ≠ k → ∀ b, rS (p j) none (o j) b → ¬ rS (p k) none (o k) b
  nw : ∀ k, k < 2 → ∀ b, rS (p k) none (o k) b → B ≤ b
  cs : D.cs = 0
  ci : D.ci = (hd D.unit (R 0).pos + 1) + (hd D.unit (R 1).pos + 1)
theorem Duo.cok {w : World} {d : Dl} {D : Dv} {c : List Int} {B : Nat} {p : Nat → Nat} {o : Nat → Option Nat} {R : Nat → Rd} (h : Duo w d D c B p o R) (hc : c.length ≤ 100000000) : cOk D := by
  have h0 := hd_le (u := D.unit) (a := (R 0).pos)
  have h1 := hd_le (u := D.unit) (a := (R 1).pos)
  have e0 := (h.on 0 (by omega)).good.ok.pos
  have e1 := (h.on 1 (by omega)).good.ok.pos
  have s0 := (h.on 0 (by omega)).good.sz
  have s1 := (h.on 1 (by omega)).good.sz
  have := h.ci
  have := h.cs
  unfold cOk
  omega
theorem Duo.below {w w' : World} {d : Dl} {D : Dv} {c : List Int} {B : Nat} {p : Nat → Nat} {o : Nat → Option Nat} {R : Nat → Rd} (h : Duo w d D c B p o R) (hb : Below w.heap.size w w') : Duo w' d D c B p o R :=
  ⟨fun k hk => (h.on k hk).below hb, h.ch, h.ap, h.nw, h.cs, h.ci⟩
/-- One of the two reads. -/
theorem Duo.read {w w' : World} {d : Dl} {D D' : Dv} {c : List Int} {B : Nat} {p : Nat → Nat} {o : Nat → Option Nat} {R : Nat → Rd} (h : Duo w d D c B p o R) (hB : B ≤ w.heap.size) {k : Nat} (hk : k < 2) {o1 : Option Nat} {R1 : Rd} (hr : ROn w' (p k) d none o1 R1 D' c) (st : RhStep w w' (p k) d none (o k) o1) (hch : R1.chain = (R k).chain)
    (hs : RSt (R k).chain.isSome (hd D.unit R1.pos - hd D.unit (R k).pos) D D') : Duo w' d D' c B p (fun j => if j = k then o1 else o j) (fun j => if j = k then R1 else R j) := by
  have hrs : ∀ b, rS (p k) none o1 b → rS (p k) none (o k) b ∨ w.heap.size ≤ b := fun b hb => by
    rcases hb with e | e | e
    · exact .inl (.inl e)
    · cases e
    · rcases st.h1 b e with e | e
      · exact .inl (.inr (.inr e))
      · exact .inr e
  have hcs := h.cs
  have hci := h.ci
  rw [h.ch k hk] at hs
  have e1 := hs.ci
  have e2 := hs.cs
  simp only [Option.isSome_none, Bool.false_eq_true, if_false] at e1 e2
  refine ⟨fun j hj => ?_, fun j hj => ?_, fun i j hi hj hij b hb hb' => ?_, fun j hj b hb => ?_, by rw [e2, hcs]; rfl, ?_⟩
  · by_cases hjk : j = k
    · subst hjk
      rw [if_pos rfl, if_pos rfl]
      exact hr
    · rw [if_neg hjk, if_neg hjk]
      exact (h.on j hj).other st (h.ap j k hj hk hjk) hs hr.mem.dv
  · show (if j = k then R1 else R j).chain = none
    by_cases hjk : j = k
    · rw [if_pos hjk, hch, h.ch k hk]
    · rw [if_neg hjk]
      exact h.ch j hj
  · by_cases hik : i = k
    · subst hik
      rw [if_pos rfl] at hb
      rw [if_neg (fun e => hij e.symm)] at hb'
      rcases hrs b hb with e | e
      · exact h.ap i j hi hj hij b e hb'
      · have := (h.on j hj).mem.rd.lt b hb'
        omega
    · rw [if_neg hik] at hb
      by_cases hjk : j = k
      · subst hjk
        rw [if_pos rfl] at hb'
        rcases hrs b hb' with e | e
        · exact h.ap i j hi hj hij b hb e
        · have := (h.on i hi).mem.rd.lt b hb
          omega
      · rw [if_neg hjk] at hb'
        exact h.ap i j hi hj hij b hb hb'
  · by_cases hjk : j = k
    · subst hjk
      rw [if_pos rfl] at hb
      rcases hrs b hb with e | e
      · exact h.nw j hj b e
      · omega
    · rw [if_neg hjk] at hb
      exact h.nw j hj b hb
  · rw [e1, hs.un, hci]
    rcases (show k = 0 ∨ k = 1 by omega) with rfl | rfl
    · rw [if_pos rfl, if_neg (by omega)]
      omega
    · rw [if_neg (by omega), if_pos rfl]
      omega
end Go.Proofs.Ytkhejipcclpknaa
