/- The way that Path tells, as plain data. No statement is proved here. -/
import Derived.Test.YtbbfbkoanbdghaaGS
set_option linter.unusedVariables false
set_option linter.unusedSimpArgs false
namespace Go.Proofs.Ytbbfbkoanbdghaa
open Go.RowKit

theorem nodup_le : ∀ (N : Nat) (l : List Nat), l.Nodup → (∀ x ∈ l, x < N) → l.length ≤ N := by
  intro N
  induction N with
  | zero =>
    intro l _ hb
    cases l with
    | nil => simp
    | cons a l => exact absurd (hb a (by simp)) (by omega)
  | succ N ih =>
    intro l hd hb
    have h := ih (l.erase N) (hd.erase N) fun x hx => by
      have h1 := List.mem_of_mem_erase hx
      have h2 : x ≠ N := (hd.mem_erase_iff.1 hx).1
      have := hb x h1
      omega
    have h2 := List.length_erase (a := N) (l := l)
    rw [h2] at h
    split at h <;> omega
theorem IsDist.list {es : List E} {N t : Nat} {mask : Int} {D : Nat → Int} (h : IsDist es N mask t D) : ∀ (k : Nat) x, x < N → D x = (k : Int) → ∃ l : List Nat, l.length = k + 1 ∧ l.Nodup ∧ ∀ y ∈ l, y < N ∧ D y ≤ (k : Int) := by
  intro k
  induction k with
  | zero => exact fun x hx hd => ⟨[x], rfl, by simp, fun y hy => by
      have : y = x := by simpa using hy
      subst this
      exact ⟨hx, by omega⟩⟩
  | succ k ih =>
    intro x hx hd
    obtain ⟨y, hy, _, hb⟩ := h.back x hx (by omega)
    obtain ⟨l, h1, h2, h3⟩ := ih y hy (by omega)
    refine ⟨x :: l, by simp [h1], List.nodup_cons.2 ⟨fun hm => ?_, h2⟩, fun z hz => ?_⟩
    · have := (h3 x hm).2
      omega
    · rcases List.mem_cons.1 hz with rfl | hz
      · exact ⟨hx, by omega⟩
      · exact ⟨(h3 z hz).1, by have := (h3 z hz).2; omega⟩
theorem IsDist.lt {es : List E} {N t : Nat} {mask : Int} {D : Nat → Int} (h : IsDist es N mask t D) {x : Nat} (hx : x < N) : D x < N := by
  by_cases h0 : D x < 0
  · omega
  · obtain ⟨k, hk⟩ := Int.eq_ofNat_of_zero_le (show 0 ≤ D x by omega)
    obtain ⟨l, h1, h2, h3⟩ := h.list k x hx hk
    have := nodup_le N l h2 fun y hy => (h3 y hy).1
    omega
/-- What the fold of step keeps: the least of those that count. -/
theorem bestE_least (D : Nat → Int) (mask : Int) : ∀ l : List E, (∀ e ∈ l, 0 ≤ e.to) → bestE D mask l < 0 ∨ ((∃ e ∈ l, e.to = bestE D mask l ∧ inM e.lab mask = true ∧ 0 ≤ D (bestE D mask l).toNat) ∧ ∀ e ∈ l, inM e.lab mask = true → 0 ≤ D e.to.toNat → D (bestE D mask l).toNat ≤ D e.to.toNat) := by
  intro l he
  unfold bestE
  have key : ∀ (l pre : List E) (b : Int), (∀ e ∈ l, 0 ≤ e.to) → (∀ e ∈ pre, 0 ≤ e.to) → (b < 0 ∧ (∀ e ∈ pre, ¬ (inM e.lab mask = true ∧ 0 ≤ D e.to.toNat)) ∨ ((∃ e ∈ pre, e.to = b ∧ inM e.lab mask = true ∧ 0 ≤ D b.toNat) ∧ ∀ e ∈ pre, inM e.lab mask = true → 0 ≤ D e.to.toNat → D b.toNat ≤ D e.to.toNat)) →
      (l.foldl (stepF D mask) b < 0 ∨ ((∃ e ∈ pre ++ l, e.to = l.foldl (stepF D mask) b ∧ inM e.lab mask = true ∧ 0 ≤ D (l.foldl (stepF D mask) b).toNat) ∧ ∀ e ∈ pre ++ l, inM e.lab mask = true → 0 ≤ D e.to.toNat → D (l.foldl (stepF D mask) b).toNat ≤ D e.to.toNat)) := by
    intro l
    induction l with
    | nil =>
      intro pre b _ _ h
      simp only [List.foldl_nil, List.append_nil]
      rcases h with h | h
      · exact .inl h.1
      · exact .inr h
    | cons e l ih =>
      intro pre b h0 hpre h
      rw [List.foldl_cons, show pre ++ e :: l = (pre ++ [e]) ++ l by simp]
      refine ih (pre ++ [e]) _ (fun x hx => h0 x (List.mem_cons_of_mem _ hx)) (fun x hx => by
        rcases List.mem_append.1 hx with hx | hx
        · exact hpre x hx
        · have : x = e := by simpa using hx
          subst this
          exact h0 x (by simp)) ?_
      unfold stepF
      by_cases hc : inM e.lab mask = true ∧ 0 ≤ D e.to.toNat
      · rw [if_pos hc]
        by_cases hb : b < 0 ∨ D e.to.toNat < D b.toNat ∨ (D e.to.toNat = D b.toNat ∧ e.to < b)
        · rw [if_pos hb]
          refine .inr ⟨⟨e, by simp, rfl, hc.1, hc.2⟩, fun x hx h1 h2 => ?_⟩
          rcases List.mem_append.1 hx with hx | hx
          · rcases h with h | h
            · exact absurd ⟨h1, h2⟩ (h.2 x hx)
            · have := h.2 x hx h1 h2
              rcases hb with hb | hb | hb
              · obtain ⟨⟨e', he', hto, _⟩, _⟩ := h
                have := hpre e' he'
                omega
              · omega
              · omega
          · have : x = e := by simpa using hx
            subst this
            omega
        · rw [if_neg hb]
          rcases h with h | h
          · exact absurd (.inl h.1) hb
          · refine .inr ⟨?_, fun x hx h1 h2 => ?_⟩
            · obtain ⟨⟨e', he', h'⟩, _⟩ := h
              exact ⟨e', by simp [he'], h'⟩
            · rcases List.mem_append.1 hx with hx | hx
              · exact h.2 x hx h1 h2
              · have : x = e := by simpa using hx
                subst this
                omega
      · rw [if_neg hc]
        rcases h with h | h
        · refine .inl ⟨h.1, fun x hx => ?_⟩
          rcases List.mem_append.1 hx with hx | hx
          · exact h.2 x hx
          · have : x = e := by simpa using hx
            subst this
            exact hc
        · refine .inr ⟨?_, fun x hx h1 h2 => ?_⟩
          · obtain ⟨⟨e', he', h'⟩, _⟩ := h
            exact ⟨e', by simp [he'], h'⟩
          · rcases List.mem_append.1 hx with hx | hx
            · exact h.2 x hx h1 h2
            · have : x = e := by simpa using hx
              subst this
              exact absurd ⟨h1, h2⟩ hc
  have := key l [] (-1) he (fun e h => by cases h) (.inl ⟨by omega, fun e h => by cases h⟩)
  simpa using this
theorem bestE_congr {D D' : Nat → Int} (mask : Int) (N : Nat) (h : ∀ x, x < N → D x = D' x) (l : List E) (he : ∀ e ∈ l, 0 ≤ e.to ∧ e.to < N) : bestE D mask l = bestE D' mask l := by
  unfold bestE
  have key : ∀ (l : List E) (b : Int), (b = -1 ∨ (0 ≤ b ∧ b < N)) → (∀ e ∈ l, 0 ≤ e.to ∧ e.to < N) → l.foldl (stepF D mask) b = l.foldl (stepF D' mask) b := by
    intro l
    induction l with
    | nil => intros; rfl
    | cons e l ih =>
      intro b hb hl
      have h1 := hl e (by simp)
      have e1 : D e.to.toNat = D' e.to.toNat := h _ (by omega)
      have hs : stepF D mask b e = stepF D' mask b e := by
        unfold stepF
        rw [e1]
        rcases hb with rfl | hb
        · have h2 : ((-1 : Int) < 0) := by omega
          simp [h2]
        · rw [h b.toNat (by omega)]
      rw [List.foldl_cons, List.foldl_cons, hs]
      refine ih _ ?_ fun x hx => hl x (List.mem_cons_of_mem _ hx)
      unfold stepF
      split
      · split
        · exact .inr h1
        · exact hb
      · exact hb
  exact key l (-1) (.inl rfl) he
theorem mem_rowE {es : List E} {N x : Nat} (hx : x < N) {e : E} (he : e ∈ es) (hf : e.frm = (x : Int)) : e ∈ rowE es N x := by
  unfold rowE
  rw [if_pos hx, List.mem_filter]
  exact ⟨he, by rw [hf]; simp⟩
def nxt (es : List E) (N : Nat) (mask : Int) (D : Nat → Int) (x : Nat) : Nat := (bestE D mask (rowE es N x)).toNat
inductive Run (nx : Nat → Nat) (t : Nat) : Nat → List Nat → Prop
  | stop (x : Nat) (h : nx x = t) : Run nx t x [x, t]
  | go (x : Nat) (l : List Nat) (h : nx x ≠ t) (r : Run nx t (nx x) l) : Run nx t x (x :: l)
theorem Run.uniq {nx nx' : Nat → Nat} {t N : Nat} {x : Nat} {l : List Nat} (h : Run nx t x l) : ∀ {l' : List Nat}, (∀ y ∈ l, nx y = nx' y) → Run nx' t x l' → l' = l := by
  induction h with
  | stop x h =>
    intro l' he h'
    cases h' with
    | stop _ _ => rfl
    | go _ _ hn _ => exact absurd ((he x (by simp)).symm.trans h) hn
  | go x l hn r ih =>
    intro l' he h'
    have hx := he x (by simp)
    cases h' with
    | stop _ h => exact absurd (hx.trans h) hn
    | go _ l2 _ r2 =>
      exact congrArg (List.cons x) (ih (fun y hy => he y (List.mem_cons_of_mem _ hy)) (by rw [hx]; exact r2))
section
variable {es : List E} {N t : Nat} {mask : Int} {D : Nat → Int}
/-- A node from which a step leads on: the next node is one edge away, counts, and is nearest. -/
theorem nxt_edge (hD : IsDist es N mask t D) (hok : ∀ e ∈ es, okE N e) {x : Nat} (hx : x < N) (h0 : 0 ≤ bestE D mask (rowE es N x)) : bestE D mask (rowE es N x) = (nxt es N mask D x : Int) ∧ nxt es N mask D x < N ∧ Edge es mask x (nxt es N mask D x) ∧ 0 ≤ D (nxt es N mask D x) := by
  have hr : ∀ e ∈ rowE es N x, 0 ≤ e.to ∧ e.to < N := fun e he => by
    have := hok e (out_mem hx he).1
    exact ⟨this.2.2.1, this.2.2.2.1⟩
  have hin := bestE_in D mask N _ hr
  rcases bestE_least D mask _ (fun e he => (hr e he).1) with h | ⟨⟨e, he, h1, h2, h3⟩, _⟩
  · omega
  · have hc : bestE D mask (rowE es N x) = (nxt es N mask D x : Int) := by unfold nxt; omega
    exact ⟨hc, by omega, ⟨e, (out_mem hx he).1, (out_mem hx he).2, h1.trans hc, h2⟩, h3⟩
theorem nxt_down (hD : IsDist es N mask t D) (hok : ∀ e ∈ es, okE N e) {x : Nat} (hx : x < N) (h0 : 0 < D x) : 0 ≤ bestE D mask (rowE es N x) ∧ D x = D (nxt es N mask D x) + 1 := by
  have hr : ∀ e ∈ rowE es N x, 0 ≤ e.to ∧ e.to < N := fun e he => by
    have := hok e (out_mem hx he).1
    exact ⟨this.2.2.1, this.2.2.2.1⟩
  obtain ⟨y, hy, ⟨e, he, hf, ht, hi⟩, hb⟩ := hD.back x hx h0
  have hm := mem_rowE hx he hf
  have h1 : 0 ≤ bestE D mask (rowE es N x) := (bestE_pos D mask _ fun e he => (hr e he).1).2 ⟨e, hm, hi, by rw [ht, Int.toNat_natCast]; omega⟩
  obtain ⟨_, hn, hE, hp⟩ := nxt_edge hD hok hx h1
  refine ⟨h1, ?_⟩
  have hf := (hD.fwd x _ hx hn hE hp).2
  rcases bestE_least D mask _ (fun e he => (hr e he).1) with h | ⟨_, h2⟩
  · omega
  · have := h2 e hm hi (by rw [ht, Int.toNat_natCast]; omega)
    rw [ht, Int.toNat_natCast] at this
    have h3 : D (nxt es N mask D x) ≤ D y := this
    omega
structure RunFacts (es : List E) (N : Nat) (mask : Int) (t : Nat) (D : Nat → Int) (x : Nat) (p : List Nat) : Prop where
  two : 2 ≤ p.length
  zero : p[0]? = some x
  one : p[1]? = some (nxt es N mask D x)
  all : ∀ (i y : Nat), p[i]? = some y → y < N
  last : p[p.length - 1]? = some t
  edge : ∀ (i y z : Nat), p[i]? = some y → p[i + 1]? = some z → Edge es mask y z
  dist : ∀ (i y : Nat), p[i + 1]? = some y → D y = (p.length : Int) - 2 - i
theorem Run.facts (hD : IsDist es N mask t D) (hok : ∀ e ∈ es, okE N e) (ht : t < N) {x : Nat} {p : List Nat} (h : Run (nxt es N mask D) t x p) : x < N → 0 ≤ bestE D mask (rowE es N x) → RunFacts es N mask t D x p := by
  induction h with
  | stop x h =>
    intro hx h0
    obtain ⟨_, hn, hE, hp⟩ := nxt_edge hD hok hx h0
    rw [h] at hn hE hp
    refine ⟨by simp, rfl, by rw [h]; rfl, ?_, rfl, ?_, ?_⟩
    · intro i y hy
      match i, hy with
      | 0, hy => cases hy; exact hx
      | 1, hy => cases hy; exact ht
    · intro i y z hy hz
      match i, hy, hz with
      | 0, hy, hz => cases hy; cases hz; exact hE
    · intro i y hy
      match i, hy with
      | 0, hy => cases hy; rw [hD.z]; simp
  | go x l hn r ih =>
    intro hx h0
    obtain ⟨_, hn1, hE, hp⟩ := nxt_edge hD hok hx h0
    have hpos : 0 < D (nxt es N mask D x) := by
      rcases Int.lt_or_eq_of_le hp with h | h
      · exact h
      · exact absurd (hD.zero _ hn1 h.symm) hn
    obtain ⟨h1, h2⟩ := nxt_down hD hok hn1 hpos
    have F := ih hn1 h1
    have hl := F.two
    refine ⟨by simp; omega, rfl, F.zero, ?_, ?_, ?_, ?_⟩
    · intro i y hy
      cases i with
      | zero => cases hy; exact hx
      | succ i => exact F.all i y hy
    · rw [List.length_cons, Nat.add_sub_cancel]
      obtain ⟨k, hk⟩ : ∃ k, l.length = k + 1 := ⟨l.length - 1, by omega⟩
      rw [hk]
      have := F.last
      rw [hk] at this
      exact this
    · intro i y z hy hz
      cases i with
      | zero =>
        cases hy
        have hz' : l[0]? = some z := hz
        rw [F.zero] at hz'
        cases hz'
        exact hE
      | succ i => exact F.edge i y z hy hz
    · intro i y hy
      have hy' : l[i]? = some y := hy
      cases i with
      | zero =>
        rw [F.zero] at hy'
        cases hy'
        have := F.dist 0 _ F.one
        simp
        omega
      | succ i =>
        have := F.dist i y hy'
        simp
        omega
end
end Go.Proofs.Ytbbfbkoanbdghaa
