/- The library's stable sort: what its parts do to an array (plain Lean). No statement is proved here. -/
import Derived.Sort.LotA
set_option linter.unusedVariables false
set_option linter.unusedSimpArgs false
namespace Go.Proofs.Ytgimpkbknaopcaa
open Go.Sort
section
variable {α : Type} [Inhabited α] {lt : α → α → Bool}

/-- Two ranges exchanged: the first k of them. -/
structure SwR (a b k : Nat) (d d' : Array α) : Prop where
  sz : d'.size = d.size
  fa : ∀ t, t < k → d'[a + t]! = d[b + t]!
  fb : ∀ t, t < k → d'[b + t]! = d[a + t]!
  out : ∀ p, (p < a ∨ a + k ≤ p) → (p < b ∨ b + k ≤ p) → d'[p]! = d[p]!
theorem SwR.zero (a b : Nat) (d : Array α) : SwR a b 0 d d := ⟨rfl, fun _ h => absurd h (Nat.not_lt_zero _), fun _ h => absurd h (Nat.not_lt_zero _), fun _ _ _ => rfl⟩
theorem SwR.step {a b k : Nat} {d d' : Array α} (h : SwR a b k d d') (hab : a + (k + 1) ≤ b) (hb : b + (k + 1) ≤ d.size) : SwR a b (k + 1) d (swp d' (a + k) (b + k)) := by
  have hs := h.sz
  have g := fun p => swp_get d' (i := a + k) (j := b + k) (by omega) (by omega) p
  refine ⟨by rw [swp_size]; exact hs, fun t ht => ?_, fun t ht => ?_, fun p h1 h2 => ?_⟩
  · rw [g, if_neg (by omega)]
    by_cases e : t = k
    · subst e
      rw [if_pos rfl]
      exact h.out _ (by omega) (by omega)
    · rw [if_neg (by omega)]
      exact h.fa t (by omega)
  · rw [g]
    by_cases e : t = k
    · subst e
      rw [if_pos rfl]
      exact h.out _ (by omega) (by omega)
    · rw [if_neg (by omega), if_neg (by omega)]
      exact h.fb t (by omega)
  · rw [g, if_neg (by omega), if_neg (by omega)]
    exact h.out p (by omega) (by omega)
/-- [a, m) and [m, b) have changed places. -/
structure Rot (a m b : Nat) (d d' : Array α) : Prop where
  sz : d'.size = d.size
  l : ∀ t, t < b - m → d'[a + t]! = d[m + t]!
  r : ∀ t, t < m - a → d'[a + (b - m) + t]! = d[a + t]!
  out : ∀ p, p < a ∨ b ≤ p → d'[p]! = d[p]!
theorem Rot.same {a b : Nat} (d : Array α) (h : a ≤ b) : Rot a a b d d := by
  refine ⟨rfl, fun t _ => rfl, fun t ht => by omega, fun _ _ => rfl⟩
theorem Rot.same' {a b : Nat} (d : Array α) (h : a ≤ b) : Rot a b b d d := by
  refine ⟨rfl, fun t ht => by omega, fun t ht => ?_, fun _ _ => rfl⟩
  rw [Nat.sub_self, Nat.add_zero]
/-- i > j: the first j of the left part change places with the right part. -/
theorem Rot.gt {m i j : Nat} {d d1 d' : Array α} (hm : i ≤ m) (hij : j < i) (h : SwR (m - i) m j d d1) (k : Rot (m - (i - j)) m (m + j) d1 d') : Rot (m - i) m (m + j) d d' := by
  refine ⟨k.sz.trans h.sz, fun t ht => ?_, fun t ht => ?_, fun p hp => ?_⟩
  · rw [k.out _ (by omega)]
    exact h.fa t (by omega)
  · by_cases h1 : t < j
    · have e := k.l t (by omega)
      rw [show m - (i - j) + t = m - i + (m + j - m) + t by omega] at e
      rw [e]
      exact h.fb t h1
    · have e := k.r (t - j) (by omega)
      rw [show m - (i - j) + (m + j - m) + (t - j) = m - i + (m + j - m) + t by omega, show m - (i - j) + (t - j) = m - i + t by omega] at e
      rw [e]
      exact h.out _ (by omega) (by omega)
  · rw [k.out p (by omega)]
    exact h.out p (by omega) (by omega)
theorem Rot.less {m i j : Nat} {d d1 d' : Array α} (hm : i ≤ m) (hij : i < j) (h : SwR (m - i) (m + j - i) i d d1) (k : Rot (m - i) m (m + (j - i)) d1 d') : Rot (m - i) m (m + j) d d' := by
  refine ⟨k.sz.trans h.sz, fun t ht => ?_, fun t ht => ?_, fun p hp => ?_⟩
  · by_cases h1 : t < j - i
    · have e := k.l t (by omega)
      rw [e]
      exact h.out _ (by omega) (by omega)
    · have e := k.r (t - (j - i)) (by omega)
      rw [show m - i + (m + (j - i) - m) + (t - (j - i)) = m - i + t by omega] at e
      rw [e, h.fa _ (by omega)]
      congr 1
      omega
  · rw [k.out _ (by omega)]
    have e := h.fb t (by omega)
    rw [show m + j - i + t = m - i + (m + j - m) + t by omega] at e
    exact e
  · rw [k.out p (by omega)]
    exact h.out p (by omega) (by omega)
theorem Rot.eq {m i : Nat} {d d1 : Array α} (hm : i ≤ m) (h : SwR (m - i) m i d d1) : Rot (m - i) m (m + i) d d1 := by
  refine ⟨h.sz, fun t ht => h.fa t (by omega), fun t ht => ?_, fun p hp => h.out p (by omega) (by omega)⟩
  have e := h.fb t (by omega)
  rw [show m + t = m - i + (m + i - m) + t by omega] at e
  exact e
/-- Where the first of [m, b) lies that isn't less than x. -/
structure Fst (lt : α → α → Bool) (m b : Nat) (x : α) (d : Array α) (i : Nat) : Prop where
  lo : ∀ k, m ≤ k → k < i → lt d[k]! x = true
  hi : ∀ k, i ≤ k → k < b → lt d[k]! x = false
/-- The middle of a search: what lies below i, and from j on. -/
structure Sea (P : Nat → Bool) (m b i j : Nat) : Prop where
  h1 : m ≤ i
  h2 : i ≤ j
  h3 : j ≤ b
  lo : ∀ k, m ≤ k → k < i → P k = true
  hi : ∀ k, j ≤ k → k < b → P k = false
theorem Sea.start (P : Nat → Bool) {m b : Nat} (h : m ≤ b) : Sea P m b m b := ⟨Nat.le_refl _, h, Nat.le_refl _, fun k h1 h2 => by omega, fun k h1 h2 => by omega⟩
theorem Sea.up {P : Nat → Bool} {m b i j : Nat} (h : Sea P m b i j) {c : Nat} (hc : i ≤ c ∧ c < j) (hP : P c = true) (mono : ∀ k, m ≤ k → k < c → P c = true → P k = true) : Sea P m b (c + 1) j :=
  ⟨by have := h.h1; omega, by omega, h.h3, fun k h1 h2 => by
    by_cases e : k = c
    · rw [e]; exact hP
    · exact mono k h1 (by omega) hP, h.hi⟩
theorem Sea.down {P : Nat → Bool} {m b i j : Nat} (h : Sea P m b i j) {c : Nat} (hc : i ≤ c ∧ c < j) (hP : P c = false) (mono : ∀ k, c < k → k < b → P c = false → P k = false) : Sea P m b i c :=
  ⟨h.h1, hc.1, by have := h.h3; omega, h.lo, fun k h1 h2 => by
    by_cases e : k = c
    · rw [e]; exact hP
    · exact mono k (by omega) h2 hP⟩
/-- An element on its way to the right: it was at a and is at k. -/
structure Mvr (a k : Nat) (d d' : Array α) : Prop where
  sz : d'.size = d.size
  at' : d'[k]! = d[a]!
  mid : ∀ t, a ≤ t → t < k → d'[t]! = d[t + 1]!
  out : ∀ t, t < a ∨ k < t → d'[t]! = d[t]!
theorem Mvr.start (a : Nat) (d : Array α) : Mvr a a d d := ⟨rfl, rfl, fun t h1 h2 => by omega, fun _ _ => rfl⟩
theorem Mvr.step {a k : Nat} {d d' : Array α} (h : Mvr a k d d') (hak : a ≤ k) (hk : k + 1 < d.size) : Mvr a (k + 1) d (swp d' k (k + 1)) := by
  have hs := h.sz
  have g := fun p => swp_get d' (i := k) (j := k + 1) (by omega) (by omega) p
  refine ⟨by rw [swp_size]; exact hs, by rw [g, if_pos rfl]; exact h.at', fun t h1 h2 => ?_, fun t ht => ?_⟩
  · rw [g, if_neg (by omega)]
    by_cases e : t = k
    · subst e
      rw [if_pos rfl]
      exact h.out _ (by omega)
    · rw [if_neg e]
      exact h.mid t h1 (by omega)
  · rw [g, if_neg (by omega), if_neg (by omega)]
    exact h.out t (by omega)
/-- An element on its way to the left: it was at m and is at k. -/
structure Mvl (m k : Nat) (d d' : Array α) : Prop where
  sz : d'.size = d.size
  at' : d'[k]! = d[m]!
  mid : ∀ t, k < t → t ≤ m → d'[t]! = d[t - 1]!
  out : ∀ t, t < k ∨ m < t → d'[t]! = d[t]!
theorem Mvl.start (m : Nat) (d : Array α) : Mvl m m d d := ⟨rfl, rfl, fun t h1 h2 => by omega, fun _ _ => rfl⟩
theorem Mvl.step {m k : Nat} {d d' : Array α} (h : Mvl m (k + 1) d d') (hkm : k + 1 ≤ m) (hm : m < d.size) : Mvl m k d (swp d' (k + 1) k) := by
  have hs := h.sz
  have g := fun p => swp_get d' (i := k + 1) (j := k) (by omega) (by omega) p
  refine ⟨by rw [swp_size]; exact hs, by rw [g, if_pos rfl]; exact h.at', fun t h1 h2 => ?_, fun t ht => ?_⟩
  · rw [g, if_neg (by omega)]
    by_cases e : t = k + 1
    · subst e
      rw [if_pos rfl]
      exact h.out _ (by omega)
    · rw [if_neg e]
      exact h.mid t (by omega) h2
  · rw [g, if_neg (by omega), if_neg (by omega)]
    exact h.out t (by omega)
omit [Inhabited α] in
theorem not_lt_of (hS : SWO lt) {x y z : α} (h1 : lt y x = false) (h2 : lt y z = true) : lt x z = true := by
  cases h : lt x z with
  | true => rfl
  | false =>
    have := hS.ntrans y x z h1 h
    rw [this] at h2
    cases h2
theorem mono_lo (hS : SWO lt) {d : Array α} {m b : Nat} (hs : SortedIn lt m b d) {x : α} {c k : Nat} (hk : m ≤ k) (hkc : k < c) (hc : c < b) (h : lt d[c]! x = true) : lt d[k]! x = true := not_lt_of hS (hs k c hk hkc hc) h
theorem mono_hi (hS : SWO lt) {d : Array α} {m b : Nat} (hs : SortedIn lt m b d) {x : α} {c k : Nat} (hc : m ≤ c) (hkc : c < k) (hk : k < b) (h : lt d[c]! x = false) : lt d[k]! x = false := hS.ntrans _ _ _ (hs c k hc hkc hk) h
/-- The one element on the left has gone to its place. -/
theorem merge_left (hS : SWO lt) {a b i : Nat} {d d' : Array α} (hs : SortedIn lt (a + 1) b d) (hi : a + 1 ≤ i ∧ i ≤ b) (h : Sea (fun k => lt d[k]! d[a]!) (a + 1) b i i) (k : Mvr a (i - 1) d d') : SortedIn lt a b d' := by
  intro p q hp hpq hq
  by_cases q1 : q < i - 1
  · rw [k.mid q (by omega) q1, k.mid p hp (by omega)]
    exact hs _ _ (by omega) (by omega) (by omega)
  · by_cases q2 : q = i - 1
    · rw [q2, k.at', k.mid p hp (by omega)]
      exact hS.asymmA (h.lo (p + 1) (by omega) (by omega))
    · rw [k.out q (by omega)]
      by_cases p1 : p < i - 1
      · rw [k.mid p hp p1]
        exact hs _ _ (by omega) (by omega) (by omega)
      · by_cases p2 : p = i - 1
        · rw [p2, k.at']
          exact h.hi q (by omega) (by omega)
        · rw [k.out p (by omega)]
          exact hs _ _ (by omega) hpq hq
/-- The one element on the right has gone to its place. -/
theorem merge_right (hS : SWO lt) {a m i : Nat} {d d' : Array α} (hs : SortedIn lt a m d) (hi : a ≤ i ∧ i ≤ m) (h : Sea (fun k => !lt d[m]! d[k]!) a m i i) (k : Mvl m i d d') : SortedIn lt a (m + 1) d' := by
  intro p q hp hpq hq
  by_cases q1 : q < i
  · rw [k.out q (by omega), k.out p (by omega)]
    exact hs _ _ hp hpq (by omega)
  · by_cases q2 : q = i
    · rw [q2, k.at', k.out p (by omega)]
      have := h.lo p hp (by omega)
      simpa using this
    · rw [k.mid q (by omega) (by omega)]
      by_cases p1 : p < i
      · rw [k.out p (by omega)]
        exact hs _ _ hp (by omega) (by omega)
      · by_cases p2 : p = i
        · rw [p2, k.at']
          have := h.hi (q - 1) (by omega) (by omega)
          exact hS.asymmA (by simpa using this)
        · rw [k.mid p (by omega) (by omega)]
          exact hs _ _ (by omega) (by omega) (by omega)
/-- What symMerge's search finds. -/
structure Cut (a m b mid n s0 r0 : Nat) : Prop where
  am : a < m
  mb : m < b
  mi : mid = (a + b) / 2
  hn : n = mid + m
  hs : (mid < m ∧ s0 = n - b ∧ r0 = mid) ∨ (m ≤ mid ∧ s0 = a ∧ r0 = m)
theorem Cut.bounds {a m b mid n s0 r0 : Nat} (h : Cut a m b mid n s0 r0) : a ≤ s0 ∧ s0 ≤ r0 ∧ r0 ≤ m ∧ r0 ≤ mid ∧ n - s0 ≤ b ∧ m ≤ n - r0 ∧ a < mid ∧ mid < b ∧ b ≤ n + b - mid := by
  have h1 := h.am
  have h2 := h.mb
  have h3 := h.mi
  have h4 := h.hn
  rcases h.hs with ⟨e1, e2, e3⟩ | ⟨e1, e2, e3⟩ <;> subst e2 <;> subst e3 <;> omega
def pr (lt : α → α → Bool) (d : Array α) (n c : Nat) : Bool := !lt d[n - 1 - c]! d[c]!
theorem pr_mono (hS : SWO lt) {a m b mid n s0 r0 : Nat} (h : Cut a m b mid n s0 r0) {d : Array α} (hl : SortedIn lt a m d) (hr : SortedIn lt m b d) {c k : Nat} (hk : s0 ≤ k) (hkc : k < c) (hc : c < r0) : (pr lt d n c = true → pr lt d n k = true) ∧ (pr lt d n k = false → pr lt d n c = false) := by
  have hb := h.bounds
  have e1 : lt d[c]! d[k]! = false := hl k c (by omega) hkc (by omega)
  have e2 : lt d[n - 1 - k]! d[n - 1 - c]! = false := hr _ _ (by omega) (by omega) (by omega)
  unfold pr
  have key : lt d[n - 1 - c]! d[c]! = false → lt d[n - 1 - k]! d[k]! = false := fun e => hS.ntrans _ _ _ (hS.ntrans _ _ _ e2 e) e1
  constructor
  · intro e
    have e' : lt d[n - 1 - c]! d[c]! = false := by simpa using e
    rw [key e']
    rfl
  · intro e
    cases hh : lt d[n - 1 - c]! d[c]! with
    | true => rfl
    | false =>
      rw [key hh] at e
      cases e
/-- Behind the rotation: nothing on the right is less than anything on the left. -/
theorem cut_apart (hS : SWO lt) {a m b mid n s0 r0 : Nat} (h : Cut a m b mid n s0 r0) {d d1 : Array α} (hl : SortedIn lt a m d) (hr : SortedIn lt m b d) {s : Nat} (hse : Sea (pr lt d n) s0 r0 s s) (k : Rot s m (n - s) d d1) :
    a ≤ s ∧ s ≤ mid ∧ mid ≤ n - s ∧ n - s ≤ b ∧ SortedIn lt a s d1 ∧ SortedIn lt s mid d1 ∧ SortedIn lt mid (n - s) d1 ∧ SortedIn lt (n - s) b d1 ∧ ∀ p q, a ≤ p → p < mid → mid ≤ q → q < b → lt d1[q]! d1[p]! = false := by
  have hb := h.bounds
  have h1 := hse.h1
  have h3 := hse.h3
  have hn := h.hn
  have hm := h.am
  have hmb := h.mb
  have hsm : s ≤ m := by omega
  have hme : m ≤ n - s := by omega
  have L1 : ∀ p, p < s → d1[p]! = d[p]! := fun p hp => k.out p (by omega)
  have R1 : ∀ p, s ≤ p → p < mid → d1[p]! = d[m + (p - s)]! := fun p h1 h2 => by
    have := k.l (p - s) (by omega)
    rw [show s + (p - s) = p by omega] at this
    exact this
  have L2 : ∀ p, mid ≤ p → p < n - s → d1[p]! = d[s + (p - mid)]! := fun p h1 h2 => by
    have := k.r (p - mid) (by omega)
    rw [show s + (n - s - m) + (p - mid) = p by omega] at this
    exact this
  have R2 : ∀ p, n - s ≤ p → d1[p]! = d[p]! := fun p hp => k.out p (by omega)
  have x1 : ∀ p e, a ≤ p → p < s → n - s ≤ e → e < b → lt d[e]! d[p]! = false := fun p e hp hps he heb => by
    have hs0 : s0 < s := by
      rcases h.hs with ⟨e1, e2, e3⟩ | ⟨e1, e2, e3⟩ <;> omega
    have hlo := hse.lo (s - 1) (by omega) (by omega)
    unfold pr at hlo
    have hlo' : lt d[n - 1 - (s - 1)]! d[s - 1]! = false := by simpa using hlo
    rw [show n - 1 - (s - 1) = n - s by omega] at hlo'
    have y1 : lt d[e]! d[s - 1]! = false := by
      by_cases ee : e = n - s
      · rw [ee]; exact hlo'
      · exact hS.ntrans _ _ _ (hr (n - s) e (by omega) (by omega) heb) hlo'
    by_cases ep : p = s - 1
    · rw [ep]; exact y1
    · exact hS.ntrans _ _ _ y1 (hl p (s - 1) hp (by omega) (by omega))
  have x2 : ∀ e c, m ≤ e → e < n - s → s ≤ c → c < m → lt d[c]! d[e]! = false := fun e c he hes hc hcm => by
    have hs0 : s < r0 := by
      rcases h.hs with ⟨e1, e2, e3⟩ | ⟨e1, e2, e3⟩ <;> omega
    have hhi := hse.hi s (Nat.le_refl _) hs0
    unfold pr at hhi
    have hhi' : lt d[n - 1 - s]! d[s]! = true := by simpa using hhi
    have y0 : lt d[s]! d[n - 1 - s]! = false := hS.asymmA hhi'
    have y1 : lt d[c]! d[n - 1 - s]! = false := by
      by_cases ec : c = s
      · rw [ec]; exact y0
      · exact hS.ntrans _ _ _ (hl s c (by omega) (by omega) hcm) y0
    by_cases ee : e = n - 1 - s
    · rw [ee]; exact y1
    · exact hS.ntrans _ _ _ y1 (hr e (n - 1 - s) he (by omega) (by omega))
  refine ⟨by omega, by omega, by omega, by omega, fun p q hp hpq hq => ?_, fun p q hp hpq hq => ?_, fun p q hp hpq hq => ?_, fun p q hp hpq hq => ?_, fun p q hp hpm hq hqb => ?_⟩
  · rw [L1 p (by omega), L1 q hq]
    exact hl p q hp hpq (by omega)
  · rw [R1 p hp (by omega), R1 q (by omega) hq]
    exact hr _ _ (by omega) (by omega) (by omega)
  · rw [L2 p hp (by omega), L2 q (by omega) hq]
    exact hl _ _ (by omega) (by omega) (by omega)
  · rw [R2 p hp, R2 q (by omega)]
    exact hr _ _ (by omega) hpq hq
  · by_cases p1 : p < s
    · rw [L1 p p1]
      by_cases q1 : q < n - s
      · rw [L2 q hq q1]
        exact hl _ _ hp (by omega) (by omega)
      · rw [R2 q (by omega)]
        exact x1 p q hp p1 (by omega) hqb
    · rw [R1 p (by omega) hpm]
      by_cases q1 : q < n - s
      · rw [L2 q hq q1]
        exact x2 _ _ (by omega) (by omega) (by omega) (by omega)
      · rw [R2 q (by omega)]
        exact hr _ _ (by omega) (by omega) hqb
/-- Behind the rotation each half's left part came from the left. -/
theorem cut_tags {tag : α → Nat} {a m b mid n s0 r0 : Nat} (h : Cut a m b mid n s0 r0) {d d1 : Array α} {Q : Nat → Bool} {s : Nat} (hse : Sea Q s0 r0 s s) (k : Rot s m (n - s) d d1) (ht : ∀ p q, a ≤ p → p < m → m ≤ q → q < b → tag d[p]! < tag d[q]!) :
    (∀ p q, a ≤ p → p < s → s ≤ q → q < mid → tag d1[p]! < tag d1[q]!) ∧ (∀ p q, mid ≤ p → p < n - s → n - s ≤ q → q < b → tag d1[p]! < tag d1[q]!) := by
  have hb := h.bounds
  have h1 := hse.h1
  have h3 := hse.h3
  have hn := h.hn
  have hm := h.am
  have hmb := h.mb
  refine ⟨fun p q hp hps hq hqm => ?_, fun p q hp hps hq hqb => ?_⟩
  · have e := k.l (q - s) (by omega)
    rw [show s + (q - s) = q by omega] at e
    rw [k.out p (by omega), e]
    exact ht p _ hp (by omega) (by omega) (by omega)
  · have e := k.r (p - mid) (by omega)
    rw [show s + (n - s - m) + (p - mid) = p by omega] at e
    rw [k.out q (by omega), e]
    exact ht _ q (by omega) (by omega) (by omega) hqb
/-- Two sorted halves, nothing on the right less than anything on the left. -/
theorem halves {a mid b : Nat} {d d1 d2 : Array α} (ham : a ≤ mid) (hmb : mid ≤ b) (hb : b ≤ d.size) (hap : ∀ p q, a ≤ p → p < mid → mid ≤ q → q < b → lt d[q]! d[p]! = false) (k1 : PermIn a mid d d1) (s1 : SortedIn lt a mid d1) (k2 : PermIn mid b d1 d2) (s2 : SortedIn lt mid b d2) : SortedIn lt a b d2 := by
  have e1 : ∀ p, p < mid → d2[p]! = d1[p]! := fun p hp => k2.2.1 p (.inl hp)
  have e2 : ∀ q, mid ≤ q → d1[q]! = d[q]! := fun q hq => k1.2.1 q (.inr hq)
  have h1 : ∀ q, mid ≤ q → q < b → ∀ p, a ≤ p → p < mid → lt d[q]! d1[p]! = false := fun q hq hqb => permIn_all d d1 a mid (fun x => lt d[q]! x = false) (by omega) k1 (fun p hp hpm => hap p q hp hpm hq hqb)
  have h2 : ∀ p, a ≤ p → p < mid → ∀ q, mid ≤ q → q < b → lt d2[q]! d1[p]! = false := fun p hp hpm => permIn_all d1 d2 mid b (fun y => lt y d1[p]! = false) (by rw [k1.1]; exact hb) k2 (fun q hq hqb => by rw [e2 q hq]; exact h1 q hq hqb p hp hpm)
  intro p q hp hpq hq
  by_cases hqm : q < mid
  · rw [e1 p (by omega), e1 q hqm]
    exact s1 p q hp hpq hqm
  · by_cases hpm : p < mid
    · rw [e1 p hpm]
      exact h2 p hp hpm q (by omega) hq
    · exact s2 p q (by omega) hpq hq
/-- Runs of bs elements. -/
def Runs (lt : α → α → Bool) (bs n lo : Nat) (d : Array α) : Prop := ∀ t, lo ≤ t * bs → SortedIn lt (t * bs) (min ((t + 1) * bs) n) d
end
end Go.Proofs.Ytgimpkbknaopcaa
