/- Strong components, plain: what a search in depth with low numbers keeps. No statement is proved here. -/
import Derived.Test.YtbbfbkoanbdghaaGX
set_option linter.unusedVariables false
set_option linter.unusedSimpArgs false
namespace Go.Proofs.Ytbbfbkoanbdghaa

/-- A way over the relation, or none at all. -/
inductive RT (R : Nat → Nat → Prop) : Nat → Nat → Prop
  | refl (a : Nat) : RT R a a
  | step {a b c : Nat} : R a b → RT R b c → RT R a c
theorem RT.trans {R : Nat → Nat → Prop} {a b c : Nat} (h : RT R a b) (k : RT R b c) : RT R a c := by
  induction h with
  | refl => exact k
  | step r _ ih => exact .step r (ih k)
theorem RT.one {R : Nat → Nat → Prop} {a b : Nat} (h : R a b) : RT R a b := .step h (.refl b)
/-- How many of the first n are nought. -/
def cz (f : Nat → Nat) : Nat → Nat
  | 0 => 0
  | n + 1 => (if f n = 0 then 1 else 0) + cz f n
theorem cz_le (f : Nat → Nat) : ∀ n, cz f n ≤ n
  | 0 => Nat.le_refl _
  | n + 1 => by
    have := cz_le f n
    unfold cz
    split <;> omega
theorem cz_upd (f : Nat → Nat) (x c : Nat) (hx : f x = 0) (hc : c ≠ 0) : ∀ n, cz (upd f x c) n + (if x < n then 1 else 0) = cz f n
  | 0 => rfl
  | n + 1 => by
    have ih := cz_upd f x c hx hc n
    show (if upd f x c n = 0 then 1 else 0) + cz (upd f x c) n + (if x < n + 1 then 1 else 0) = (if f n = 0 then 1 else 0) + cz f n
    by_cases h : n = x
    · subst h
      rw [upd_same, if_neg hc, if_pos hx, if_pos (by omega)]
      rw [if_neg (Nat.lt_irrefl n)] at ih
      omega
    · rw [upd_other h]
      have e3 : (if x < n + 1 then 1 else 0) = (if x < n then 1 else 0) := by
        by_cases h2 : x < n
        · rw [if_pos h2, if_pos (by omega)]
        · rw [if_neg h2, if_neg (by omega)]
      rw [e3]
      omega
theorem cz_pos (f : Nat → Nat) {x : Nat} (hx : f x = 0) : ∀ n, x < n → 0 < cz f n
  | 0, h => by omega
  | n + 1, h => by
    show 0 < (if f n = 0 then 1 else 0) + cz f n
    by_cases e : x = n
    · subst e; rw [if_pos hx]; omega
    · have := cz_pos f hx n (by omega)
      omega
theorem cz_zero (f : Nat → Nat) : ∀ n, (∀ x, x < n → f x ≠ 0) → cz f n = 0
  | 0, _ => rfl
  | n + 1, h => by
    show (if f n = 0 then 1 else 0) + cz f n = 0
    rw [if_neg (h n (by omega)), cz_zero f n fun x hx => h x (by omega)]

structure TS where
  cnt : Nat
  seen : Nat → Nat
  low : Nat → Nat
  stk : List Nat
  fnd : List (List Nat)
structure Inv (R : Nat → Nat → Prop) (N : Nat) (s : TS) (gray : List Nat) : Prop where
  srt : s.stk.Pairwise (fun a b => s.seen b < s.seen a)
  pos : ∀ y ∈ s.stk, y < N ∧ 0 < s.seen y ∧ s.seen y ≤ s.cnt
  gs : ∀ z ∈ gray, z ∈ s.stk
  blk : ∀ y, y < N → s.seen y ≠ 0 → y ∉ gray → ∀ u, R y u → s.seen u ≠ 0
  toG : ∀ y ∈ s.stk, ∃ z ∈ gray, s.seen z ≤ s.seen y ∧ RT R y z
  frG : ∀ z ∈ gray, ∀ y ∈ s.stk, s.seen z ≤ s.seen y → RT R z y
  fin : ∀ y, y < N → ((s.seen y ≠ 0 ∧ y ∉ s.stk) ↔ ∃ g ∈ s.fnd, y ∈ g)
  scc : ∀ g ∈ s.fnd, g ≠ [] ∧ g.Pairwise (· < ·) ∧ (∀ y ∈ g, y < N) ∧ ∀ a ∈ g, ∀ b, b ∈ g ↔ (RT R a b ∧ RT R b a)
  dis : s.fnd.flatten.Nodup
  num : s.cnt + cz s.seen N = N
structure VPost (R : Nat → Nat → Prop) (N : Nat) (s : TS) (gray : List Nat) (x : Nat) (s' : TS) : Prop where
  inv : Inv R N s' gray
  ext : ∃ l, s'.stk = l ++ s.stk ∧ ∀ u ∈ l, ∀ y ∈ s.stk, R u y → s'.low x ≤ s.seen y
  far : s.cnt < s'.low x ∨ ∃ z ∈ s.stk, s.seen z = s'.low x ∧ RT R x z
  keep : ∀ y, s.seen y ≠ 0 → s'.seen y = s.seen y ∧ s'.low y = s.low y
  sx : s'.seen x ≠ 0
  less : cz s'.seen N < cz s.seen N
structure Mid (R : Nat → Nat → Prop) (N : Nat) (s0 : TS) (gray : List Nat) (x : Nat) (P : Nat → Prop) (s : TS) : Prop where
  inv : Inv R N s (x :: gray)
  ext : ∃ l, s.stk = l ++ x :: s0.stk ∧ ∀ u ∈ l, ∀ y ∈ s0.stk, R u y → s.low x ≤ s0.seen y
  sx : s.seen x = s0.cnt + 1
  lowx : s.low x = s.seen x ∨ (s.low x < s.seen x ∧ ∃ z ∈ s0.stk, s0.seen z = s.low x ∧ RT R x z)
  keep : ∀ y, s0.seen y ≠ 0 → s.seen y = s0.seen y ∧ s.low y = s0.low y
  don : ∀ y, P y → s.seen y ≠ 0 ∧ (y ∈ s0.stk → s.low x ≤ s0.seen y)
  less : cz s.seen N < cz s0.seen N
section
variable {R : Nat → Nat → Prop} {N : Nat} {s0 s s' : TS} {gray : List Nat} {x y : Nat} {P : Nat → Prop}
theorem Inv.nodup (h : Inv R N s gray) : s.stk.Nodup := h.srt.imp fun hab e => by subst e; exact Nat.lt_irrefl _ hab
theorem Inv.seen0 (h : Inv R N s gray) {y : Nat} (hy : y ∈ s.stk) : s.seen y ≠ 0 := by have := (h.pos y hy).2.1; omega
theorem Inv.cntN (h : Inv R N s gray) : s.cnt ≤ N := by have := h.num; omega
def push (s : TS) (x : Nat) : TS := ⟨s.cnt + 1, upd s.seen x (s.cnt + 1), upd s.low x (s.cnt + 1), x :: s.stk, s.fnd⟩
theorem mid_start (h : Inv R N s0 gray) (hx : x < N) (h0 : s0.seen x = 0) (hg : ∀ z ∈ gray, RT R z x) : Mid R N s0 gray x (fun _ => False) (push s0 x) := by
  have hns : x ∉ s0.stk := fun hm => h.seen0 hm h0
  have hse : ∀ y, s0.seen y ≠ 0 → upd s0.seen x (s0.cnt + 1) y = s0.seen y := fun y hy => upd_other (fun e => by subst e; exact hy h0)
  have hst : ∀ y ∈ s0.stk, upd s0.seen x (s0.cnt + 1) y = s0.seen y := fun y hy => hse y (h.seen0 hy)
  have hcz := cz_upd s0.seen x (s0.cnt + 1) h0 (by omega) N
  rw [if_pos hx] at hcz
  refine ⟨⟨?_, ?_, ?_, ?_, ?_, ?_, ?_, h.scc, h.dis, ?_⟩, ⟨[], rfl, fun u hu => by simp at hu⟩, upd_same _ _ _, .inl ((upd_same _ _ _).trans (upd_same _ _ _).symm), fun y hy => ⟨hse y hy, upd_other (fun e => by subst e; exact hy h0)⟩, fun y hy => hy.elim, ?_⟩
  · refine List.Pairwise.cons (fun b hb => ?_) (h.srt.imp_of_mem fun {a b} ha hb hab => ?_)
    · show upd s0.seen x (s0.cnt + 1) b < upd s0.seen x (s0.cnt + 1) x
      rw [hst b hb, upd_same]
      have := (h.pos b hb).2.2
      omega
    · show upd s0.seen x (s0.cnt + 1) b < upd s0.seen x (s0.cnt + 1) a
      rw [hst a ha, hst b hb]
      exact hab
  · intro y hy
    rcases List.mem_cons.1 hy with rfl | hy
    · exact ⟨hx, by show 0 < upd s0.seen y (s0.cnt + 1) y; rw [upd_same]; omega, by show upd s0.seen y (s0.cnt + 1) y ≤ s0.cnt + 1; rw [upd_same]; exact Nat.le_refl _⟩
    · obtain ⟨a, b, c⟩ := h.pos y hy
      refine ⟨a, ?_, ?_⟩
      · show 0 < upd s0.seen x (s0.cnt + 1) y
        rw [hst y hy]; exact b
      · show upd s0.seen x (s0.cnt + 1) y ≤ s0.cnt + 1
        rw [hst y hy]; omega
  · intro z hz
    rcases List.mem_cons.1 hz with rfl | hz
    · exact List.mem_cons_self
    · exact List.mem_cons_of_mem _ (h.gs z hz)
  · intro y hy hs hn u hr
    have hyx : y ≠ x := fun e => hn (by rw [e]; exact List.mem_cons_self)
    have hs' : s0.seen y ≠ 0 := by
      have h1 : upd s0.seen x (s0.cnt + 1) y ≠ 0 := hs
      rwa [upd_other hyx] at h1
    have h2 := h.blk y hy hs' (fun hm => hn (List.mem_cons_of_mem _ hm)) u hr
    show upd s0.seen x (s0.cnt + 1) u ≠ 0
    rw [hse u h2]
    exact h2
  · intro y hy
    rcases List.mem_cons.1 hy with rfl | hy
    · exact ⟨y, List.mem_cons_self, Nat.le_refl _, .refl y⟩
    · obtain ⟨z, hz, hl, hr⟩ := h.toG y hy
      refine ⟨z, List.mem_cons_of_mem _ hz, ?_, hr⟩
      show upd s0.seen x (s0.cnt + 1) z ≤ upd s0.seen x (s0.cnt + 1) y
      rw [hst z (h.gs z hz), hst y hy]
      exact hl
  · intro z hz y hy hl
    have hl : upd s0.seen x (s0.cnt + 1) z ≤ upd s0.seen x (s0.cnt + 1) y := hl
    rcases List.mem_cons.1 hz with h1 | h1
    · subst h1
      rcases List.mem_cons.1 hy with h2 | h2
      · rw [h2]
        exact .refl z
      · rw [hst y h2, upd_same] at hl
        have := (h.pos y h2).2.2
        omega
    · rcases List.mem_cons.1 hy with h2 | h2
      · rw [h2]
        exact hg z h1
      · rw [hst y h2, hst z (h.gs z h1)] at hl
        exact h.frG z h1 y h2 hl
  · intro y hy
    refine Iff.trans ?_ (h.fin y hy)
    show (upd s0.seen x (s0.cnt + 1) y ≠ 0 ∧ y ∉ x :: s0.stk) ↔ _
    by_cases e : y = x
    · subst e
      simp [h0]
    · rw [upd_other e]
      simp [e]
  · show s0.cnt + 1 + cz (upd s0.seen x (s0.cnt + 1)) N = N
    have := h.num
    omega
  · show cz (upd s0.seen x (s0.cnt + 1)) N < cz s0.seen N
    omega
/-- The numbers of Mid with the low number of x lowered. -/
def lower (s : TS) (x m : Nat) : TS := { s with low := upd s.low x m }
theorem Inv.lower (h : Inv R N s gray) (x m : Nat) : Inv R N (lower s x m) gray := ⟨h.srt, h.pos, h.gs, h.blk, h.toG, h.frG, h.fin, h.scc, h.dis, h.num⟩
theorem Mid.weak {P' : Nat → Prop} (h : Mid R N s0 gray x P s) (hp : ∀ y, P' y → P y) : Mid R N s0 gray x P' s := ⟨h.inv, h.ext, h.sx, h.lowx, h.keep, fun y hy => h.don y (hp y hy), h.less⟩
theorem Mid.x_in (h : Mid R N s0 gray x P s) : x ∈ s.stk := h.inv.gs x List.mem_cons_self
theorem Mid.old (h : Mid R N s0 gray x P s) (hi : Inv R N s0 gray) {y : Nat} (hy : y ∈ s0.stk) : s.seen y = s0.seen y := (h.keep y (hi.seen0 hy)).1
/-- What lies on the stack is old, or has a number of x's or above. -/
theorem Mid.split (h : Mid R N s0 gray x P s) {y : Nat} (hy : y ∈ s.stk) : y ∈ s0.stk ∨ s.seen x ≤ s.seen y := by
  obtain ⟨l, hl, _⟩ := h.ext
  rw [hl] at hy
  rcases List.mem_append.1 hy with hy | hy
  · have := h.inv.srt
    rw [hl, List.pairwise_append] at this
    exact .inr (Nat.le_of_lt (this.2.2 y hy x List.mem_cons_self))
  · rcases List.mem_cons.1 hy with rfl | hy
    · exact .inr (Nat.le_refl _)
    · exact .inl hy
theorem Mid.onstk (h : Mid R N s0 gray x P s) (hi : Inv R N s0 gray) (hx0 : s0.seen x = 0) (hr : R x y) (hy : y ∈ s.stk) : Mid R N s0 gray x (fun u => P u ∨ u = y) (lower s x (min (s.low x) (s.seen y))) := by
  obtain ⟨l, hl, hc⟩ := h.ext
  have hle : min (s.low x) (s.seen y) ≤ s.low x := Nat.min_le_left _ _
  refine ⟨h.inv.lower _ _, ⟨l, hl, fun u hu v hv huv => ?_⟩, h.sx, ?_, fun v hv => ⟨(h.keep v hv).1, ?_⟩, fun v hv => ?_, h.less⟩
  · show upd s.low x _ x ≤ _
    rw [upd_same]
    exact Nat.le_trans hle (hc u hu v hv huv)
  · show upd s.low x _ x = s.seen x ∨ (upd s.low x _ x < s.seen x ∧ ∃ z ∈ s0.stk, s0.seen z = upd s.low x _ x ∧ _)
    rw [upd_same]
    rcases h.split hy with ho | hn
    · have e := h.old hi ho
      by_cases hlt : s.seen y < s.low x
      · rw [Nat.min_eq_right (Nat.le_of_lt hlt)]
        refine .inr ⟨?_, y, ho, e.symm, .one hr⟩
        rcases h.lowx with h1 | h1 <;> omega
      · rw [Nat.min_eq_left (by omega)]
        exact h.lowx
    · rw [Nat.min_eq_left (by rcases h.lowx with h1 | h1 <;> omega)]
      exact h.lowx
  · show upd s.low x _ v = _
    rw [upd_other (fun e => by subst e; exact hv hx0)]
    exact (h.keep v hv).2
  · show s.seen v ≠ 0 ∧ (v ∈ s0.stk → upd s.low x _ x ≤ s0.seen v)
    rw [upd_same]
    rcases hv with hv | rfl
    · exact ⟨(h.don v hv).1, fun hm => Nat.le_trans hle ((h.don v hv).2 hm)⟩
    · exact ⟨h.inv.seen0 hy, fun hm => by rw [← h.old hi hm]; exact Nat.min_le_right _ _⟩
theorem Mid.offstk (h : Mid R N s0 gray x P s) (hs : s.seen y ≠ 0) (hy : y ∉ s.stk) : Mid R N s0 gray x (fun u => P u ∨ u = y) s := by
  obtain ⟨l, hl, hc⟩ := h.ext
  refine ⟨h.inv, h.ext, h.sx, h.lowx, h.keep, fun v hv => ?_, h.less⟩
  rcases hv with hv | rfl
  · exact h.don v hv
  · exact ⟨hs, fun hm => absurd (by rw [hl]; simp [hm]) hy⟩
theorem Mid.oldlt (h : Mid R N s0 gray x P s) {z : Nat} (hz : z ∈ s0.stk) : s.seen z < s.seen x := by
  obtain ⟨l, hl, _⟩ := h.ext
  have := h.inv.srt
  rw [hl, List.pairwise_append, List.pairwise_cons] at this
  exact this.2.1.1 z hz
theorem Mid.greys (h : Mid R N s0 gray x P s) (hi : Inv R N s0 gray) (hr : R x y) : ∀ z ∈ x :: gray, RT R z y := by
  intro z hz
  refine (h.inv.frG z hz x h.x_in ?_).trans (.one hr)
  rcases List.mem_cons.1 hz with rfl | hz2
  · exact Nat.le_refl _
  · exact Nat.le_of_lt (h.oldlt (hi.gs z hz2))
theorem Mid.child (h : Mid R N s0 gray x P s) (hi : Inv R N s0 gray) (hx0 : s0.seen x = 0) (hr : R x y) (hy : s.seen y = 0) (k : VPost R N s (x :: gray) y s') : Mid R N s0 gray x (fun u => P u ∨ u = y) (lower s' x (min (s'.low x) (s'.low y))) := by
  obtain ⟨l, hl, hc⟩ := h.ext
  obtain ⟨l', hl', hc'⟩ := k.ext
  have hxs : s.seen x ≠ 0 := by rw [h.sx]; omega
  have hkx := k.keep x hxs
  have hsx : s'.seen x = s.seen x := hkx.1
  have hlx : s'.low x = s.low x := hkx.2
  have hle : min (s.low x) (s'.low y) ≤ s.low x := Nat.min_le_left _ _
  have hxc : s.seen x ≤ s.cnt := (h.inv.pos x h.x_in).2.2
  rw [hlx]
  have hold : ∀ v, s0.seen v ≠ 0 → s.seen v ≠ 0 := fun v hv => by rw [(h.keep v hv).1]; exact hv
  have hyo : ∀ v ∈ s0.stk, s.seen v = s0.seen v := fun v hv => h.old hi hv
  refine ⟨k.inv.lower _ _, ⟨l' ++ l, by show s'.stk = _; rw [hl', hl, List.append_assoc], fun u hu v hv huv => ?_⟩, ?_, ?_, fun v hv => ⟨?_, ?_⟩, fun v hv => ?_, Nat.lt_trans k.less h.less⟩
  · show upd s'.low x _ x ≤ _
    rw [upd_same]
    rcases List.mem_append.1 hu with hu | hu
    · have h1 := hc' u hu v (by rw [hl]; simp [hv]) huv
      rw [hyo v hv] at h1
      exact Nat.le_trans (Nat.min_le_right _ _) h1
    · exact Nat.le_trans hle (hc u hu v hv huv)
  · show s'.seen x = _
    rw [hsx, h.sx]
  · show upd s'.low x _ x = s'.seen x ∨ (upd s'.low x _ x < s'.seen x ∧ ∃ z ∈ s0.stk, s0.seen z = upd s'.low x _ x ∧ _)
    rw [upd_same, hsx]
    by_cases hlt : s'.low y < s.low x
    · rw [Nat.min_eq_right (Nat.le_of_lt hlt)]
      have hlow : s.low x ≤ s.seen x := by rcases h.lowx with h1 | h1 <;> omega
      rcases k.far with hf | ⟨z, hz, hz1, hz2⟩
      · omega
      · rcases h.split hz with ho | hn
        · exact .inr ⟨by omega, z, ho, by rw [← hyo z ho]; exact hz1, .step hr hz2⟩
        · omega
    · rw [Nat.min_eq_left (by omega)]
      exact h.lowx
  · show s'.seen v = _
    rw [(k.keep v (hold v hv)).1, (h.keep v hv).1]
  · show upd s'.low x _ v = _
    rw [upd_other (fun e => by subst e; exact hv hx0), (k.keep v (hold v hv)).2, (h.keep v hv).2]
  · show s'.seen v ≠ 0 ∧ (v ∈ s0.stk → upd s'.low x _ x ≤ s0.seen v)
    rw [upd_same]
    rcases hv with hv | rfl
    · obtain ⟨h1, h2⟩ := h.don v hv
      exact ⟨by rw [(k.keep v h1).1]; exact h1, fun hm => Nat.le_trans hle (h2 hm)⟩
    · exact ⟨k.sx, fun hm => absurd hy (hold _ (hi.seen0 hm))⟩
theorem Mid.stay (h : Mid R N s0 gray x P s) (hi : Inv R N s0 gray) (hall : ∀ u, R x u → P u) (hlt : s.low x < s.seen x) : VPost R N s0 gray x s := by
  obtain ⟨l, hl, hc⟩ := h.ext
  obtain ⟨z, hz, hz1, hz2⟩ : ∃ z ∈ s0.stk, s0.seen z = s.low x ∧ RT R x z := by
    rcases h.lowx with h1 | h1
    · omega
    · exact h1.2
  have hin := h.inv
  have hzs : z ∈ s.stk := by rw [hl]; simp [hz]
  refine ⟨⟨hin.srt, hin.pos, fun v hv => hin.gs v (List.mem_cons_of_mem _ hv), fun v hv hs hn u hr => ?_, fun v hv => ?_, fun v hv => hin.frG v (List.mem_cons_of_mem _ hv), hin.fin, hin.scc, hin.dis, hin.num⟩, ⟨l ++ [x], by rw [hl]; simp, fun u hu v hv huv => ?_⟩, .inr ⟨z, hz, hz1, hz2⟩, h.keep, by rw [h.sx]; omega, h.less⟩
  · by_cases e : v = x
    · subst e
      exact (h.don u (hall u hr)).1
    · exact hin.blk v hv hs (fun hm => by rcases List.mem_cons.1 hm with h1 | h1; exact e h1; exact hn h1) u hr
  · obtain ⟨g, hg, hg1, hg2⟩ := hin.toG v hv
    rcases List.mem_cons.1 hg with rfl | hg3
    · obtain ⟨g', hg', hg1', hg2'⟩ := hin.toG z hzs
      have hzo := h.old hi hz
      rcases List.mem_cons.1 hg' with rfl | hg3'
      · omega
      · exact ⟨g', hg3', by omega, (hg2.trans hz2).trans hg2'⟩
    · exact ⟨g, hg3, hg1, hg2⟩
  · rcases List.mem_append.1 hu with hu | hu
    · exact hc u hu v hv huv
    · have : u = x := by simpa using hu
      subst this
      exact (h.don v (hall v huv)).2 hv
def popped (s : TS) (old : List Nat) (g : List Nat) : TS := { s with stk := old, fnd := s.fnd ++ [g] }
theorem Mid.pop (h : Mid R N s0 gray x P s) (hi : Inv R N s0 gray) (hall : ∀ u, R x u → P u) (hR : ∀ a b, R a b → a < N ∧ b < N) (hlt : ¬ s.low x < s.seen x) {l g : List Nat} (hl : s.stk = l ++ x :: s0.stk) (hp : g.Perm (l ++ [x])) (hs : g.Pairwise (· < ·)) : VPost R N s0 gray x (popped s s0.stk g) := by
  have hin := h.inv
  have hlow : s.low x = s.seen x := by rcases h.lowx with h1 | h1 <;> omega
  obtain ⟨l0, hl0, hc⟩ := h.ext
  have : l0 = l := by
    rw [hl] at hl0
    exact (List.append_cancel_right hl0).symm
  subst this
  have hnd := hin.nodup
  have hmem : ∀ v, v ∈ g ↔ v ∈ l0 ∨ v = x := fun v => by rw [hp.mem_iff]; simp
  have hseg : ∀ v ∈ g, v ∈ s.stk := fun v hv => by rw [hl]; rcases (hmem v).1 hv with h1 | h1 <;> simp [h1]
  have hdisj : ∀ v ∈ g, v ∉ s0.stk := fun v hv ho => by
    rw [hl, List.nodup_append] at hnd
    rcases (hmem v).1 hv with h1 | rfl
    · exact hnd.2.2 v h1 v (List.mem_cons_of_mem _ ho) rfl
    · exact (List.nodup_cons.1 hnd.2.1).1 ho
  have hsplit : ∀ v ∈ s.stk, v ∈ g ∨ v ∈ s0.stk := fun v hv => by
    rw [hl] at hv
    rcases List.mem_append.1 hv with h1 | h1
    · exact .inl ((hmem v).2 (.inl h1))
    · rcases List.mem_cons.1 h1 with h2 | h2
      · exact .inl ((hmem v).2 (.inr h2))
      · exact .inr h2
  have hxg : x ∈ g := (hmem x).2 (.inr rfl)
  have hge : ∀ v ∈ g, s.seen x ≤ s.seen v := fun v hv => by
    rcases h.split (hseg v hv) with h1 | h1
    · exact absurd h1 (hdisj v hv)
    · exact h1
  have hfr : ∀ v ∈ g, RT R x v := fun v hv => hin.frG x List.mem_cons_self v (hseg v hv) (hge v hv)
  -- an edge out of the segment goes to a seen node, and never to the old stack
  have hedge : ∀ v ∈ g, ∀ u, R v u → s.seen u ≠ 0 ∧ u ∉ s0.stk := fun v hv u hr => by
    have hold : ∀ u ∈ s0.stk, s0.seen u < s.seen x := fun u hu => by
      have := h.oldlt hu
      rw [h.old hi hu] at this
      exact this
    rcases (hmem v).1 hv with h1 | rfl
    · refine ⟨?_, fun hu => ?_⟩
      · have hvg : v ∉ x :: gray := fun hm => by
          rcases List.mem_cons.1 hm with rfl | h3
          · rw [hl, List.nodup_append] at hnd
            exact hnd.2.2 v h1 v List.mem_cons_self rfl
          · exact hdisj v hv (hi.gs v h3)
        exact hin.blk v (hR v u hr).1 (hin.seen0 (hseg v hv)) hvg u hr
      · have h2 := hc v h1 u hu hr
        have := hold u hu
        omega
    · obtain ⟨h2, h3⟩ := h.don u (hall u hr)
      refine ⟨h2, fun hu => ?_⟩
      have h4 := h3 hu
      have := hold u hu
      omega
  have hclose : ∀ a b, RT R a b → a ∈ g → RT R b a → b ∈ g := by
    intro a b hab
    induction hab with
    | refl => intro ha _; exact ha
    | @step a u b r hub ih =>
      intro ha hba
      obtain ⟨h1, h2⟩ := hedge a ha u r
      refine ih ?_ (hba.trans (.one r))
      by_cases hu : u ∈ s.stk
      · rcases hsplit u hu with h3 | h3
        · exact h3
        · exact absurd h3 h2
      · obtain ⟨gr, hgr, hug⟩ := (hin.fin u (hR a u r).2).1 ⟨h1, hu⟩
        have := ((hin.scc gr hgr).2.2.2 u hug a).2 ⟨hub.trans hba, .one r⟩
        exact absurd (hseg a ha) ((hin.fin a (hR a u r).1).2 ⟨gr, hgr, this⟩).2
  have hto : ∀ v ∈ g, RT R v x := fun v hv => by
    obtain ⟨z, hz, hz1, hz2⟩ := hin.toG v (hseg v hv)
    have hz3 := hin.frG z hz v (hseg v hv) hz1
    have hzg : z ∈ g := hclose v z hz2 hv hz3
    rcases List.mem_cons.1 hz with rfl | hz4
    · exact hz2
    · exact absurd (hi.gs z hz4) (hdisj z hzg)
  have hgN : ∀ v ∈ g, v < N := fun v hv => (hin.pos v (hseg v hv)).1
  refine ⟨⟨?_, fun v hv => ?_, fun v hv => hi.gs v hv, fun v hv hs' hn u hr => ?_, fun v hv => ?_, fun v hv w hw => ?_, fun v hv => ?_, fun gr hgr => ?_, ?_, hin.num⟩, ⟨[], rfl, fun u hu => by simp at hu⟩, .inl ?_, h.keep, by show s.seen x ≠ 0; rw [h.sx]; omega, h.less⟩
  · have := hin.srt
    rw [hl, List.pairwise_append, List.pairwise_cons] at this
    exact this.2.1.2
  · exact hin.pos v (by rw [hl]; have hv : v ∈ s0.stk := hv; simp [hv])
  · by_cases e : v = x
    · subst e
      exact (hedge v hxg u hr).1
    · exact hin.blk v hv hs' (fun hm => by rcases List.mem_cons.1 hm with h1 | h1; exact e h1; exact hn h1) u hr
  · have hv : v ∈ s0.stk := hv
    obtain ⟨z, hz, hz1, hz2⟩ := hin.toG v (by rw [hl]; simp [hv])
    rcases List.mem_cons.1 hz with rfl | hz3
    · have := h.oldlt hv
      omega
    · exact ⟨z, hz3, hz1, hz2⟩
  · have hw : w ∈ s0.stk := hw
    exact hin.frG v (List.mem_cons_of_mem _ hv) w (by rw [hl]; simp [hw])
  · show (s.seen v ≠ 0 ∧ v ∉ s0.stk) ↔ ∃ gr ∈ s.fnd ++ [g], v ∈ gr
    have h1 := hin.fin v hv
    constructor
    · rintro ⟨h2, h3⟩
      by_cases hvs : v ∈ s.stk
      · exact ⟨g, by simp, (hsplit v hvs).resolve_right h3⟩
      · obtain ⟨gr, hgr, hvg⟩ := h1.1 ⟨h2, hvs⟩
        exact ⟨gr, by simp [hgr], hvg⟩
    · rintro ⟨gr, hgr, hvg⟩
      rcases List.mem_append.1 hgr with h4 | h4
      · obtain ⟨h5, h6⟩ := h1.2 ⟨gr, h4, hvg⟩
        exact ⟨h5, fun h7 => h6 (by rw [hl]; simp [h7])⟩
      · have : gr = g := by simpa using h4
        subst this
        exact ⟨hin.seen0 (hseg v hvg), hdisj v hvg⟩
  · rcases List.mem_append.1 hgr with h4 | h4
    · exact hin.scc gr h4
    · have : gr = g := by simpa using h4
      subst this
      refine ⟨List.ne_nil_of_mem hxg, hs, hgN, fun a ha b => ⟨fun hb => ⟨(hto a ha).trans (hfr b hb), (hto b hb).trans (hfr a ha)⟩, fun hb => hclose a b hb.1 ha hb.2⟩⟩
  · show (s.fnd ++ [g]).flatten.Nodup
    rw [List.flatten_append, List.nodup_append]
    refine ⟨hin.dis, by rw [List.flatten_cons, List.flatten_nil, List.append_nil]; exact hs.imp (fun h => Nat.ne_of_lt h), fun a ha b hb e => ?_⟩
    subst e
    have hag : a ∈ g := by simpa using hb
    obtain ⟨gr, hgr, hag'⟩ := List.mem_flatten.1 ha
    exact ((hin.fin a (hgN a hag)).2 ⟨gr, hgr, hag'⟩).2 (hseg a hag)
  · show s0.cnt < s.low x
    rw [hlow, h.sx]
    omega
theorem Inv.start (R : Nat → Nat → Prop) (N : Nat) (f g : Nat → Nat) (hf : ∀ x, x < N → f x = 0) : Inv R N ⟨0, f, g, [], []⟩ [] := by
  have hz : ∀ n, n ≤ N → cz f n = n := fun n hn => by
    induction n with
    | zero => rfl
    | succ n ih =>
      show (if f n = 0 then 1 else 0) + cz f n = n + 1
      rw [if_pos (hf n (by omega)), ih (by omega)]
      omega
  refine ⟨List.Pairwise.nil, fun y hy => by simp at hy, fun y hy => by simp at hy, fun y hy hs => absurd (hf y hy) hs, fun y hy => by simp at hy, fun y hy => by simp at hy, fun y hy => ⟨fun h => absurd (hf y hy) h.1, fun h => by simp at h⟩, fun g hg => by simp at hg, List.nodup_nil, ?_⟩
  show 0 + cz f N = N
  rw [hz N (Nat.le_refl _)]
  omega
/-- At the top nothing is left on the stack. -/
theorem Inv.top (h : Inv R N s []) : s.stk = [] := by
  cases hs : s.stk with
  | nil => rfl
  | cons a t =>
    obtain ⟨z, hz, _⟩ := h.toG a (by rw [hs]; exact List.mem_cons_self)
    simp at hz
/-- The groups of a graph: each is one strong component in rising order; each node lies in one. -/
structure Grp (R : Nat → Nat → Prop) (N : Nat) (gs : List (List Nat)) : Prop where
  all : ∀ y, y < N → ∃ g ∈ gs, y ∈ g
  scc : ∀ g ∈ gs, g ≠ [] ∧ g.Pairwise (· < ·) ∧ (∀ y ∈ g, y < N) ∧ ∀ a ∈ g, ∀ b, b ∈ g ↔ (RT R a b ∧ RT R b a)
  dis : gs.flatten.Nodup
theorem Inv.grp (h : Inv R N s []) (hall : ∀ y, y < N → s.seen y ≠ 0) : Grp R N s.fnd :=
  ⟨fun y hy => (h.fin y hy).1 ⟨hall y hy, by rw [h.top]; simp⟩, h.scc, h.dis⟩
theorem Grp.perm {gs gs' : List (List Nat)} (h : Grp R N gs) (hp : gs'.Perm gs) : Grp R N gs' :=
  ⟨fun y hy => by obtain ⟨g, hg, hy⟩ := h.all y hy; exact ⟨g, hp.mem_iff.2 hg, hy⟩, fun g hg => h.scc g (hp.mem_iff.1 hg), hp.flatten.nodup_iff.2 h.dis⟩
end
end Go.Proofs.Ytbbfbkoanbdghaa
