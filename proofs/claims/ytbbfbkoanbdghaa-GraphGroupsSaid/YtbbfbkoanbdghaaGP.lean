/- Distances to a node, plain: what a search in breadth keeps. No statement is proved here. -/
import Derived.Test.YtbbfbkoanbdghaaGX
set_option linter.unusedVariables false
set_option linter.unusedSimpArgs false
namespace Go.Proofs.Ytbbfbkoanbdghaa

def Edge (es : List E) (mask : Int) (x y : Nat) : Prop := ∃ e ∈ es, e.frm = (x : Int) ∧ e.to = (y : Int) ∧ inM e.lab mask = true
structure IsDist (es : List E) (N : Nat) (mask : Int) (t : Nat) (D : Nat → Int) : Prop where
  z : D t = 0
  lo : ∀ x, x < N → -1 ≤ D x
  zero : ∀ x, x < N → D x = 0 → x = t
  back : ∀ x, x < N → 0 < D x → ∃ y, y < N ∧ Edge es mask x y ∧ D x = D y + 1
  fwd : ∀ x y, x < N → y < N → Edge es mask x y → 0 ≤ D y → 0 ≤ D x ∧ D x ≤ D y + 1
theorem IsDist.le {es : List E} {N t : Nat} {mask : Int} {D D' : Nat → Int} (h : IsDist es N mask t D) (h' : IsDist es N mask t D') : ∀ (k : Nat) x, x < N → D x = (k : Int) → 0 ≤ D' x ∧ D' x ≤ (k : Int) := by
  intro k
  induction k with
  | zero =>
    intro x hx hd
    have := h.zero x hx (by simpa using hd)
    subst this
    rw [h'.z]
    simp
  | succ k ih =>
    intro x hx hd
    obtain ⟨y, hy, he, hb⟩ := h.back x hx (by omega)
    have h1 := ih y hy (by omega)
    have h2 := h'.fwd x y hx hy he h1.1
    omega
theorem IsDist.uniq {es : List E} {N t : Nat} {mask : Int} {D D' : Nat → Int} (h : IsDist es N mask t D) (h' : IsDist es N mask t D') (x : Nat) (hx : x < N) : D x = D' x := by
  have l1 := h.lo x hx
  have l2 := h'.lo x hx
  by_cases h0 : 0 ≤ D x
  · obtain ⟨k, hk⟩ := Int.eq_ofNat_of_zero_le h0
    have h1 := h.le h' k x hx hk
    obtain ⟨j, hj⟩ := Int.eq_ofNat_of_zero_le h1.1
    have h2 := h'.le h j x hx hj
    omega
  · by_cases h1 : 0 ≤ D' x
    · obtain ⟨k, hk⟩ := Int.eq_ofNat_of_zero_le h1
      have h2 := h'.le h k x hx hk
      omega
    · omega
/-- The same edges, in whatever order. -/
theorem IsDist.perm {es es' : List E} {N t : Nat} {mask : Int} {D : Nat → Int} (h : IsDist es N mask t D) (hp : ∀ e, e ∈ es ↔ e ∈ es') : IsDist es' N mask t D := by
  have hE : ∀ x y, Edge es mask x y ↔ Edge es' mask x y := fun x y => by
    constructor
    · rintro ⟨e, he, r⟩
      exact ⟨e, (hp e).1 he, r⟩
    · rintro ⟨e, he, r⟩
      exact ⟨e, (hp e).2 he, r⟩
  exact ⟨h.z, h.lo, h.zero, fun x hx hd => by obtain ⟨y, a, b, c⟩ := h.back x hx hd; exact ⟨y, a, (hE x y).1 b, c⟩, fun x y hx hy he hd => h.fwd x y hx hy ((hE x y).2 he) hd⟩
def doneB (es : List E) (N : Nat) (mask : Int) (D : Nat → Int) (v : Nat) : Prop := ∀ u, u < N → Edge es mask u v → 0 ≤ D u ∧ D u ≤ D v + 1
/-- How many nodes are without a distance. -/
def cntN (D : Nat → Int) : Nat → Nat
  | 0 => 0
  | n + 1 => (if D n < 0 then 1 else 0) + cntN D n
theorem cntN_upd (D : Nat → Int) (u : Nat) (c : Int) (hu : D u < 0) (hc : 0 ≤ c) : ∀ n, cntN (upd D u c) n + (if u < n then 1 else 0) = cntN D n
  | 0 => rfl
  | n + 1 => by
    have ih := cntN_upd D u c hu hc n
    show (if upd D u c n < 0 then 1 else 0) + cntN (upd D u c) n + (if u < n + 1 then 1 else 0) = (if D n < 0 then 1 else 0) + cntN D n
    by_cases h : n = u
    · subst h
      rw [upd_same]
      rw [if_neg (Nat.lt_irrefl n)] at ih
      have e1 : (if c < 0 then 1 else 0) = 0 := if_neg (by omega)
      have e2 : (if D n < 0 then 1 else 0) = 1 := if_pos hu
      have e3 : (if n < n + 1 then 1 else 0) = 1 := if_pos (by omega)
      rw [e1, e2, e3]
      omega
    · rw [upd_other h]
      have e3 : (if u < n + 1 then 1 else 0) = (if u < n then 1 else 0) := by
        by_cases h2 : u < n
        · rw [if_pos h2, if_pos (by omega)]
        · rw [if_neg h2, if_neg (by omega)]
      rw [e3]
      omega
theorem cntN_le (D : Nat → Int) : ∀ n, cntN D n ≤ n
  | 0 => Nat.le_refl _
  | n + 1 => by
    have := cntN_le D n
    unfold cntN
    split <;> omega
structure Bfs (es : List E) (N : Nat) (mask : Int) (t : Nat) (D : Nat → Int) (Q : List Nat) : Prop where
  z : D t = 0
  lo : ∀ x, x < N → -1 ≤ D x
  hi : ∀ x, x < N → D x + 1 + (cntN D N : Int) ≤ N
  zero : ∀ x, x < N → D x = 0 → x = t
  back : ∀ x, x < N → 0 < D x → ∃ y, y < N ∧ Edge es mask x y ∧ D x = D y + 1
  q : ∀ v ∈ Q, v < N ∧ 0 ≤ D v
  srt : Q.Pairwise (fun a b => D a ≤ D b)
  top : ∀ v, v < N → 0 ≤ D v → ∀ a ∈ Q, D v ≤ D a + 1
  don : ∀ v, v < N → 0 ≤ D v → v ∈ Q ∨ doneB es N mask D v
structure Bfi (es : List E) (N : Nat) (mask : Int) (t : Nat) (D : Nat → Int) (Q : List Nat) (x p : Nat) : Prop where
  z : D t = 0
  lo : ∀ x, x < N → -1 ≤ D x
  hi : ∀ x, x < N → D x + 1 + (cntN D N : Int) ≤ N
  zero : ∀ x, x < N → D x = 0 → x = t
  back : ∀ x, x < N → 0 < D x → ∃ y, y < N ∧ Edge es mask x y ∧ D x = D y + 1
  q : ∀ v ∈ Q, v < N ∧ 0 ≤ D v
  srt : Q.Pairwise (fun a b => D a ≤ D b)
  hx : x < N
  dx : 0 ≤ D x
  low : ∀ a ∈ Q, D x ≤ D a
  top : ∀ v, v < N → 0 ≤ D v → D v ≤ D x + 1
  don : ∀ v, v < N → 0 ≤ D v → v ∈ Q ∨ v = x ∨ doneB es N mask D v
  part : ∀ j, j < p → ∀ e, (rowE es N (N + x))[j]? = some e → inM e.lab mask = true → 0 ≤ D e.frm.toNat ∧ D e.frm.toNat ≤ D x + 1
section
variable {es : List E} {N t : Nat} {mask : Int} {D : Nat → Int} {Q : List Nat} {x p : Nat}
theorem bfs_start (ht : t < N) : Bfs es N mask t (upd (fun _ => -1) t 0) [t] := by
  have h1 : ∀ v, v < N → 0 ≤ upd (fun _ => (-1 : Int)) t 0 v → v = t := fun v _ hv => by
    by_cases e : v = t
    · exact e
    · rw [upd_other e] at hv; omega
  refine ⟨upd_same _ _ _, fun y _ => ?_, fun y _ => ?_, fun y hy hz => h1 y hy (by omega), fun y hy hd => ?_, fun v hv => ?_, List.pairwise_singleton _ _, fun v hv hd a ha => ?_, fun v hv hd => .inl (by rw [h1 v hv hd]; simp)⟩
  · by_cases e : y = t
    · rw [e, upd_same]; omega
    · rw [upd_other e]; omega
  · have h2 := cntN_upd (fun _ => -1) t 0 (by simp) (by omega) N
    have h3 := cntN_le (fun _ => -1) N
    rw [if_pos ht] at h2
    by_cases e : y = t
    · rw [e, upd_same]; omega
    · rw [upd_other e]; omega
  · have := h1 y hy (by omega)
    subst this
    rw [upd_same] at hd
    omega
  · rw [List.mem_singleton] at hv
    subst hv
    exact ⟨ht, by rw [upd_same]; omega⟩
  · rw [List.mem_singleton] at ha
    subst ha
    rw [h1 v hv hd]
    omega
theorem Bfs.pop (h : Bfs es N mask t D (x :: Q)) : Bfi es N mask t D Q x 0 := by
  have hs := List.pairwise_cons.1 h.srt
  obtain ⟨hx, dx⟩ := h.q x (by simp)
  exact ⟨h.z, h.lo, h.hi, h.zero, h.back, fun v hv => h.q v (List.mem_cons_of_mem _ hv), hs.2, hx, dx, hs.1, fun v hv hd => h.top v hv hd x (by simp), fun v hv hd => by
    rcases h.don v hv hd with h1 | h1
    · rcases List.mem_cons.1 h1 with h2 | h2
      · exact .inr (.inl h2)
      · exact .inl h2
    · exact .inr (.inr h1), fun j hj => by omega⟩
theorem Bfi.skip (h : Bfi es N mask t D Q x p) {e : E} (he : (rowE es N (N + x))[p]? = some e) (hs : inM e.lab mask = true → 0 ≤ D e.frm.toNat) (hf : e.frm.toNat < N) : Bfi es N mask t D Q x (p + 1) :=
  ⟨h.z, h.lo, h.hi, h.zero, h.back, h.q, h.srt, h.hx, h.dx, h.low, h.top, h.don, fun j hj e' he' hi => by
    by_cases hjp : j = p
    · subst hjp
      rw [he] at he'
      cases he'
      exact ⟨hs hi, h.top _ hf (hs hi)⟩
    · exact h.part j (by omega) e' he' hi⟩
theorem Bfi.push (h : Bfi es N mask t D Q x p) {e : E} {u : Nat} (he : (rowE es N (N + x))[p]? = some e) (hm : e ∈ es) (hi : inM e.lab mask = true) (hu : e.frm = (u : Int)) (hto : e.to = (x : Int)) (hf : u < N) (hd : D u < 0) :
    Bfi es N mask t (upd D u (D x + 1)) (Q ++ [u]) x (p + 1) := by
  have hxu : x ≠ u := fun e => by have := h.dx; rw [e] at this; omega
  have hdx := h.dx
  have hQu : ∀ v ∈ Q, v ≠ u := fun v hv e => by have := (h.q v hv).2; rw [e] at this; omega
  have hset : ∀ v, v ≠ u → upd D u (D x + 1) v = D v := fun v hv => upd_other hv
  have hsx : upd D u (D x + 1) x = D x := hset x hxu
  have hsu : upd D u (D x + 1) u = D x + 1 := upd_same _ _ _
  have hedge : Edge es mask u x := ⟨e, hm, hu, hto, hi⟩
  refine ⟨?_, ?_, ?_, ?_, ?_, ?_, ?_, h.hx, by rw [hsx]; exact hdx, ?_, ?_, ?_, ?_⟩
  · rw [hset t (fun e => by have := h.z; rw [e] at this; omega)]
    exact h.z
  · intro v hv
    by_cases hvu : v = u
    · subst hvu; rw [hsu]; omega
    · rw [hset v hvu]; exact h.lo v hv
  · intro v hv
    have h2 := cntN_upd D u (D x + 1) hd (by omega) N
    rw [if_pos hf] at h2
    have h3 := h.hi x h.hx
    by_cases hvu : v = u
    · subst hvu; rw [hsu]; omega
    · rw [hset v hvu]
      have := h.hi v hv
      omega
  · intro v hv hz
    by_cases hvu : v = u
    · subst hvu; rw [hsu] at hz; omega
    · rw [hset v hvu] at hz; exact h.zero v hv hz
  · intro v hv hp
    by_cases hvu : v = u
    · subst hvu
      exact ⟨x, h.hx, hedge, by rw [hsu, hsx]⟩
    · rw [hset v hvu] at hp ⊢
      obtain ⟨y, hy, hed, hb⟩ := h.back v hv hp
      exact ⟨y, hy, hed, by rw [hset y (fun e => by rw [e] at hb; have := h.lo u hf; omega)]; exact hb⟩
  · intro v hv
    rcases List.mem_append.1 hv with hv | hv
    · rw [hset v (hQu v hv)]; exact h.q v hv
    · rw [List.mem_singleton] at hv
      subst hv
      exact ⟨hf, by rw [hsu]; omega⟩
  · rw [List.pairwise_append]
    refine ⟨?_, List.pairwise_singleton _ _, fun a ha b hb => ?_⟩
    · refine List.Pairwise.imp_of_mem (fun ha hb hab => ?_) h.srt
      rw [hset _ (hQu _ ha), hset _ (hQu _ hb)]
      exact hab
    · rw [List.mem_singleton] at hb
      subst hb
      rw [hset a (hQu a ha), hsu]
      exact h.top a (h.q a ha).1 (h.q a ha).2
  · intro a ha
    rw [hsx]
    rcases List.mem_append.1 ha with ha | ha
    · rw [hset a (hQu a ha)]; exact h.low a ha
    · rw [List.mem_singleton] at ha
      subst ha
      rw [hsu]; omega
  · intro v hv hd'
    rw [hsx]
    by_cases hvu : v = u
    · subst hvu; rw [hsu]; omega
    · rw [hset v hvu] at hd' ⊢
      exact h.top v hv hd'
  · intro v hv hd'
    by_cases hvu : v = u
    · subst hvu; exact .inl (by simp)
    · rw [hset v hvu] at hd'
      rcases h.don v hv hd' with h1 | h1 | h1
      · exact .inl (List.mem_append_left _ h1)
      · exact .inr (.inl h1)
      · refine .inr (.inr fun w hw hE => ?_)
        have h2 := h1 w hw hE
        rw [hset w (fun e => by rw [e] at h2; omega), hset v hvu]
        exact h2
  · intro j hj e' he' hi'
    rw [hsx]
    by_cases hjp : j = p
    · subst hjp
      rw [he] at he'
      cases he'
      rw [show e.frm.toNat = u by omega, hsu]
      omega
    · have h2 := h.part j (by omega) e' he' hi'
      rw [hset _ (fun e => by rw [e] at h2; omega)]
      exact h2
theorem Bfi.done (h : Bfi es N mask t D Q x p) (hp : p = (rowE es N (N + x)).length) : Bfs es N mask t D Q := by
  refine ⟨h.z, h.lo, h.hi, h.zero, h.back, h.q, h.srt, fun v hv hd a ha => ?_, fun v hv hd => ?_⟩
  · have h1 := h.top v hv hd
    have h2 := h.low a ha
    omega
  · rcases h.don v hv hd with h1 | h1 | h1
    · exact .inl h1
    · subst h1
      refine .inr fun u hu hE => ?_
      obtain ⟨e, he, hf, hto, hi⟩ := hE
      have hm : e ∈ rowE es N (N + v) := by
        unfold rowE
        rw [if_neg (by omega), List.mem_filter]
        exact ⟨he, by rw [hto]; simp⟩
      obtain ⟨j, hj, hje⟩ := List.mem_iff_getElem.1 hm
      have := h.part j (by omega) e (by rw [List.getElem?_eq_getElem hj, hje]) hi
      rw [show e.frm.toNat = u by omega] at this
      exact this
    · exact .inr h1
theorem Bfs.dist (h : Bfs es N mask t D []) : IsDist es N mask t D :=
  ⟨h.z, h.lo, h.zero, h.back, fun x y hx hy he hd => by
    rcases h.don y hy hd with h1 | h1
    · simp at h1
    · exact h1 x hx he⟩
end
end Go.Proofs.Ytbbfbkoanbdghaa
