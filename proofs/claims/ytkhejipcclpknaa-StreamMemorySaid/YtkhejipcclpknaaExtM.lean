/- Plain lemmas on lists of holes: no program here. No statement is proved here. -/
import Derived.WalkKit
set_option linter.unusedVariables false
set_option linter.unusedSimpArgs false
namespace Go.Proofs.Ytkhejipcclpknaa

/-- The holes rise, none touches the next, all lie from lo on and below n. -/
def okFrom (lo n : Int) : List (Int × Int) → Prop
  | [] => True
  | h :: r => lo ≤ h.1 ∧ 1 ≤ h.2 ∧ h.1 + h.2 ≤ n ∧ okFrom (h.1 + h.2 + 1) n r

/-- Is block x free? -/
def freeB (hs : List (Int × Int)) (x : Int) : Bool := hs.any fun h => decide (h.1 ≤ x) && decide (x < h.1 + h.2)

@[simp] theorem freeB_nil (x : Int) : freeB [] x = false := rfl
theorem freeB_cons (h : Int × Int) (r : List (Int × Int)) (x : Int) : freeB (h :: r) x = ((decide (h.1 ≤ x) && decide (x < h.1 + h.2)) || freeB r x) := rfl
theorem freeB_append (a b : List (Int × Int)) (x : Int) : freeB (a ++ b) x = (freeB a x || freeB b x) := by simp [freeB, List.any_append]
theorem freeB_iff (hs : List (Int × Int)) (x : Int) : freeB hs x = true ↔ ∃ h ∈ hs, h.1 ≤ x ∧ x < h.1 + h.2 := by
  simp [freeB, List.any_eq_true]

theorem okFrom.mono {lo lo' n : Int} {hs : List (Int × Int)} (h : okFrom lo n hs) (hl : lo' ≤ lo) : okFrom lo' n hs := by
  cases hs with
  | nil => trivial
  | cons x r => exact ⟨by have := h.1; omega, h.2⟩
theorem okFrom.up {lo n n' : Int} {hs : List (Int × Int)} (h : okFrom lo n hs) (hl : n ≤ n') : okFrom lo n' hs := by
  induction hs generalizing lo with
  | nil => trivial
  | cons x r ih => exact ⟨h.1, h.2.1, by have := h.2.2.1; omega, ih h.2.2.2⟩

/-- Each hole of a right list. -/
theorem okFrom.mem {lo n : Int} {hs : List (Int × Int)} (h : okFrom lo n hs) : ∀ x ∈ hs, lo ≤ x.1 ∧ 1 ≤ x.2 ∧ x.1 + x.2 ≤ n := by
  induction hs generalizing lo with
  | nil => intro x hx; cases hx
  | cons y r ih =>
    intro x hx
    rcases List.mem_cons.1 hx with rfl | hx
    · exact ⟨h.1, h.2.1, h.2.2.1⟩
    · have := ih h.2.2.2 x hx
      have h1 := h.1
      have h2 := h.2.1
      exact ⟨by omega, this.2⟩

theorem okFrom.low {lo n : Int} {hs : List (Int × Int)} (h : okFrom lo n hs) (x : Int) (hx : x < lo) : freeB hs x = false := by
  rw [Bool.eq_false_iff]
  intro hf
  obtain ⟨y, hy, h1, h2⟩ := (freeB_iff hs x).1 hf
  have := h.mem y hy
  omega
theorem okFrom.high {lo n : Int} {hs : List (Int × Int)} (h : okFrom lo n hs) (x : Int) (hx : n ≤ x) : freeB hs x = false := by
  rw [Bool.eq_false_iff]
  intro hf
  obtain ⟨y, hy, h1, h2⟩ := (freeB_iff hs x).1 hf
  have := h.mem y hy
  omega

theorem okFrom.len {lo n : Int} {hs : List (Int × Int)} (h : okFrom lo n hs) (hl : lo ≤ n + 1) : 2 * (hs.length : Int) ≤ n - lo + 1 := by
  induction hs generalizing lo with
  | nil => simp; omega
  | cons y r ih =>
    have h1 := h.1
    have h2 := h.2.1
    have h3 := h.2.2.1
    have := ih h.2.2.2 (by omega)
    simp only [List.length_cons, Int.natCast_add]
    omega

/-- The first place behind the list. -/
def nxt (lo : Int) : List (Int × Int) → Int
  | [] => lo
  | h :: r => nxt (h.1 + h.2 + 1) r

theorem okFrom_append {lo n : Int} {a b : List (Int × Int)} : okFrom lo n (a ++ b) ↔ okFrom lo n a ∧ okFrom (nxt lo a) n b := by
  induction a generalizing lo with
  | nil => simp [okFrom, nxt]
  | cons h r ih => simp only [List.cons_append, okFrom, nxt, ih]; constructor <;> (intro h; simp_all)

theorem nxt_append (lo : Int) (a b : List (Int × Int)) : nxt lo (a ++ b) = nxt (nxt lo a) b := by
  induction a generalizing lo with
  | nil => rfl
  | cons h r ih => simp [nxt, ih]

theorem nxt_ge {lo n : Int} {a : List (Int × Int)} (h : okFrom lo n a) : lo ≤ nxt lo a := by
  induction a generalizing lo with
  | nil => simp [nxt]
  | cons x r ih =>
    have h1 := h.1
    have h2 := h.2.1
    have := ih h.2.2.2
    simp only [nxt]; omega
/-- All of a right list ends below the place behind it. -/
theorem nxt_above {lo n : Int} {a : List (Int × Int)} (h : okFrom lo n a) : ∀ x ∈ a, x.1 + x.2 + 1 ≤ nxt lo a := by
  induction a generalizing lo with
  | nil => intro x hx; cases hx
  | cons y r ih =>
    intro x hx
    simp only [nxt]
    rcases List.mem_cons.1 hx with rfl | hx
    · exact nxt_ge h.2.2.2
    · exact ih h.2.2.2 x hx
theorem nxt_le {lo n c : Int} {a : List (Int × Int)} (h : okFrom lo n a) (hl : lo ≤ c) (hc : ∀ x ∈ a, x.1 + x.2 + 1 ≤ c) : nxt lo a ≤ c := by
  induction a generalizing lo with
  | nil => exact hl
  | cons y r ih => exact ih h.2.2.2 (hc y (by simp)) (fun x hx => hc x (by simp [hx]))

/-- A right list is known by its free blocks. -/
theorem okFrom_unique {lo n : Int} {a b : List (Int × Int)} (ha : okFrom lo n a) (hb : okFrom lo n b) (he : ∀ x, freeB a x = freeB b x) : a = b := by
  induction a generalizing lo b with
  | nil =>
    cases b with
    | nil => rfl
    | cons y r =>
      have := he y.1
      have h1 := hb.2.1
      rw [freeB_cons] at this
      simp at this
      omega
  | cons x a ih =>
    cases b with
    | nil =>
      have := he x.1
      have h1 := ha.2.1
      rw [freeB_cons] at this
      simp at this
      omega
    | cons y b =>
      have a1 := ha.1; have a2 := ha.2.1; have a3 := ha.2.2.1; have a4 := ha.2.2.2
      have b1 := hb.1; have b2 := hb.2.1; have b3 := hb.2.2.1; have b4 := hb.2.2.2
      have hx1 : x.1 = y.1 := by
        rcases Int.lt_trichotomy x.1 y.1 with h | h | h
        · have e := he x.1
          rw [freeB_cons, freeB_cons, b4.low x.1 (by omega), show decide (y.1 ≤ x.1) = false by simp; omega, show decide (x.1 ≤ x.1) = true by simp, show decide (x.1 < x.1 + x.2) = true by simp; omega] at e
          simp at e
        · exact h
        · have e := he y.1
          rw [freeB_cons, freeB_cons, a4.low y.1 (by omega), show decide (x.1 ≤ y.1) = false by simp; omega, show decide (y.1 ≤ y.1) = true by simp, show decide (y.1 < y.1 + y.2) = true by simp; omega] at e
          simp at e
      have hx2 : x.2 = y.2 := by
        rcases Int.lt_trichotomy x.2 y.2 with h | h | h
        · have e := he (x.1 + x.2)
          rw [freeB_cons, freeB_cons, a4.low (x.1 + x.2) (by omega)] at e
          simp at e
          omega
        · exact h
        · have e := he (y.1 + y.2)
          rw [freeB_cons, freeB_cons, b4.low (y.1 + y.2) (by omega)] at e
          simp at e
          omega
      have hxy : x = y := Prod.ext hx1 hx2
      subst hxy
      rw [ih a4 b4 fun z => ?_]
      by_cases hz : z < x.1 + x.2 + 1
      · rw [a4.low z hz, b4.low z hz]
      · have e := he z
        rw [freeB_cons, freeB_cons] at e
        have : decide (z < x.1 + x.2) = false := by simp; omega
        rw [this] at e
        simpa using e

/-- What is free. -/
def leftOf (hs : List (Int × Int)) : Int := (hs.map (·.2)).sum
/-- The greatest hole. -/
def bigOf (hs : List (Int × Int)) : Int := hs.foldl (fun m h => max m h.2) 0

theorem leftOf_cons (h : Int × Int) (hs : List (Int × Int)) : leftOf (h :: hs) = h.2 + leftOf hs := by simp [leftOf]
theorem leftOf_snoc (hs : List (Int × Int)) (x : Int × Int) : leftOf (hs ++ [x]) = leftOf hs + x.2 := by simp [leftOf]
theorem bigOf_snoc (hs : List (Int × Int)) (x : Int × Int) : bigOf (hs ++ [x]) = max (bigOf hs) x.2 := by simp [bigOf]
theorem take_snoc2 {α : Type} (hs : List α) (k : Nat) (h : k < hs.length) : hs.take (k + 1) = hs.take k ++ [hs[k]] := by
  rw [List.take_succ_eq_append_getElem h]

theorem okFrom.left {lo n : Int} {hs : List (Int × Int)} (h : okFrom lo n hs) (hl : lo ≤ n + 1) : 0 ≤ leftOf hs ∧ leftOf hs ≤ max (n - lo) 0 := by
  induction hs generalizing lo with
  | nil => simp [leftOf]; omega
  | cons y r ih =>
    have h1 := h.1
    have h2 := h.2.1
    have h3 := h.2.2.1
    have := ih h.2.2.2 (by omega)
    rw [leftOf_cons]
    omega
theorem okFrom.take {lo n : Int} {hs : List (Int × Int)} (h : okFrom lo n hs) (k : Nat) : okFrom lo n (hs.take k) :=
  (okFrom_append.1 (by rw [List.take_append_drop]; exact h : okFrom lo n (hs.take k ++ hs.drop k))).1

/-! ### Cutting -/
def restF (h e : Int × Int) : List (Int × Int) :=
  (if h.1 < e.1 then [(h.1, e.1 - h.1)] else []) ++ (if e.1 + e.2 < h.1 + h.2 then [(e.1 + e.2, h.1 + h.2 - (e.1 + e.2))] else [])

theorem rest_ok {lo n : Int} {h e : Int × Int} {b : List (Int × Int)} (hb : okFrom lo n (h :: b)) (h1 : h.1 ≤ e.1) (h2 : 1 ≤ e.2) (h3 : e.1 + e.2 ≤ h.1 + h.2) : okFrom lo n (restF h e ++ b) := by
  obtain ⟨a1, a2, a3, a4⟩ := hb
  unfold restF
  by_cases c1 : h.1 < e.1 <;> by_cases c2 : e.1 + e.2 < h.1 + h.2 <;> simp only [c1, c2, if_true, if_false, List.cons_append, List.nil_append, okFrom]
  · refine ⟨a1, by omega, by omega, by omega, by omega, by omega, ?_⟩
    rw [show e.1 + e.2 + (h.1 + h.2 - (e.1 + e.2)) + 1 = h.1 + h.2 + 1 by omega]; exact a4
  · exact ⟨a1, by omega, by omega, a4.mono (by omega)⟩
  · refine ⟨by omega, by omega, by omega, ?_⟩
    rw [show e.1 + e.2 + (h.1 + h.2 - (e.1 + e.2)) + 1 = h.1 + h.2 + 1 by omega]; exact a4
  · exact a4.mono (by omega)

theorem rest_free {h e : Int × Int} (h1 : h.1 ≤ e.1) (h2 : 1 ≤ e.2) (h3 : e.1 + e.2 ≤ h.1 + h.2) (x : Int) :
    freeB (restF h e) x = ((decide (h.1 ≤ x) && decide (x < h.1 + h.2)) && !(decide (e.1 ≤ x) && decide (x < e.1 + e.2))) := by
  unfold restF
  rw [Bool.eq_iff_iff]
  by_cases c1 : h.1 < e.1 <;> by_cases c2 : e.1 + e.2 < h.1 + h.2 <;> simp [c1, c2, freeB_append, freeB_cons] <;> omega

theorem cut_ok {n : Int} {a b : List (Int × Int)} {h e : Int × Int} (hok : okFrom 0 n (a ++ h :: b)) (h1 : h.1 ≤ e.1) (h2 : 1 ≤ e.2) (h3 : e.1 + e.2 ≤ h.1 + h.2) : okFrom 0 n (a ++ restF h e ++ b) := by
  rw [List.append_assoc, okFrom_append]
  obtain ⟨ha, hb⟩ := okFrom_append.1 hok
  exact ⟨ha, rest_ok hb h1 h2 h3⟩

theorem cut_free {n : Int} {a b : List (Int × Int)} {h e : Int × Int} (hok : okFrom 0 n (a ++ h :: b)) (h1 : h.1 ≤ e.1) (h2 : 1 ≤ e.2) (h3 : e.1 + e.2 ≤ h.1 + h.2) (x : Int) :
    freeB (a ++ restF h e ++ b) x = (freeB (a ++ h :: b) x && !(decide (e.1 ≤ x) && decide (x < e.1 + e.2))) := by
  obtain ⟨ha, hb⟩ := okFrom_append.1 hok
  obtain ⟨b1, b2, b3, b4⟩ := hb
  rw [freeB_append, freeB_append, freeB_append, freeB_cons, rest_free h1 h2 h3]
  by_cases c : e.1 ≤ x ∧ x < e.1 + e.2
  · have e1 : freeB a x = false := by
      rw [Bool.eq_false_iff]; intro hf
      obtain ⟨y, hy, y1, y2⟩ := (freeB_iff a x).1 hf
      have := nxt_above ha y hy
      omega
    have e2 : freeB b x = false := b4.low x (by omega)
    simp [e1, e2, c.1, c.2]
  · have : (decide (e.1 ≤ x) && decide (x < e.1 + e.2)) = false := by
      rw [Bool.eq_false_iff]; intro hh; simp at hh; exact c hh
    rw [this]
    simp [Bool.or_assoc]

/-- A whole stretch is free just where one hole holds it. -/
theorem all_free {n : Int} {a b : List (Int × Int)} {h e : Int × Int} (hok : okFrom 0 n (a ++ h :: b)) (ha' : ∀ x ∈ a, x.1 + x.2 ≤ e.1) (hh : e.1 < h.1 + h.2) (h2 : 1 ≤ e.2) :
    (∀ x, e.1 ≤ x → x < e.1 + e.2 → freeB (a ++ h :: b) x = true) ↔ h.1 ≤ e.1 ∧ e.1 + e.2 ≤ h.1 + h.2 := by
  obtain ⟨ha, hb⟩ := okFrom_append.1 hok
  obtain ⟨b1, b2, b3, b4⟩ := hb
  have hA : ∀ x, e.1 ≤ x → freeB a x = false := fun x hx => by
    rw [Bool.eq_false_iff]; intro hf
    obtain ⟨y, hy, y1, y2⟩ := (freeB_iff a x).1 hf
    have := ha' y hy
    omega
  constructor
  · intro hall
    have f1 := hall e.1 (by omega) (by omega)
    rw [freeB_append, hA _ (by omega), freeB_cons, b4.low _ (by omega)] at f1
    simp at f1
    refine ⟨by omega, ?_⟩
    rcases Int.lt_or_le (h.1 + h.2) (e.1 + e.2) with hlt | hle
    · have f2 := hall (h.1 + h.2) (by omega) hlt
      rw [freeB_append, hA _ (by omega), freeB_cons, b4.low _ (by omega)] at f2
      simp at f2
    · exact hle
  · rintro ⟨c1, c2⟩ x hx1 hx2
    rw [freeB_append, freeB_cons]
    simp
    right; left; omega

/-- Where all holes end ahead of it nothing of a stretch is free. -/
theorem none_free {hs : List (Int × Int)} {e : Int × Int} (ha' : ∀ x ∈ hs, x.1 + x.2 ≤ e.1) (x : Int) (hx : e.1 ≤ x) : freeB hs x = false := by
  rw [Bool.eq_false_iff]; intro hf
  obtain ⟨y, hy, y1, y2⟩ := (freeB_iff hs x).1 hf
  have := ha' y hy
  omega

theorem all_used {n : Int} {a b : List (Int × Int)} {h e : Int × Int} (hok : okFrom 0 n (a ++ h :: b)) (ha' : ∀ x ∈ a, x.1 + x.2 ≤ e.1) (hh : e.1 < h.1 + h.2) (h2 : 1 ≤ e.2) :
    (∀ x, e.1 ≤ x → x < e.1 + e.2 → freeB (a ++ h :: b) x = false) ↔ e.1 + e.2 ≤ h.1 := by
  obtain ⟨ha, hb⟩ := okFrom_append.1 hok
  obtain ⟨b1, b2, b3, b4⟩ := hb
  have hA : ∀ x, e.1 ≤ x → freeB a x = false := fun x hx => none_free ha' x hx
  constructor
  · intro hall
    rcases Int.lt_or_le h.1 (e.1 + e.2) with hlt | hle
    · have f2 := hall (max h.1 e.1) (by omega) (by omega)
      rw [freeB_append, freeB_cons] at f2
      simp at f2
      omega
    · exact hle
  · intro c x hx1 hx2
    rw [freeB_append, freeB_cons, hA x hx1, b4.low _ (by omega)]
    simp; omega

/-! ### Giving back -/
/-- The four ways: with the hole ahead of it, with the one behind it, with both, with none. -/
theorem add_ok {n : Int} {a b : List (Int × Int)} {e : Int × Int} (ha : okFrom 0 n a) (hb : okFrom (e.1 + e.2 + 1) n b) (h0 : nxt 0 a ≤ e.1) (h2 : 1 ≤ e.2) (h3 : e.1 + e.2 ≤ n) : okFrom 0 n (a ++ e :: b) :=
  okFrom_append.2 ⟨ha, h0, h2, h3, hb⟩

theorem nxt_snoc (lo : Int) (a : List (Int × Int)) (x : Int × Int) : nxt lo (a ++ [x]) = x.1 + x.2 + 1 := by rw [nxt_append]; rfl

theorem insideB_iff (n f c : Int) : (decide (1 ≤ c) && decide (0 ≤ f) && decide (f < n) && decide (c ≤ n - f)) = true ↔ 1 ≤ c ∧ 0 ≤ f ∧ f < n ∧ f + c ≤ n := by
  simp; omega

/-- What is given back, with the hole that begins right behind it. -/
def mergE (b : List (Int × Int)) (e : Int × Int) : Int × Int := match b with
  | [] => e
  | h :: _ => if h.1 = e.1 + e.2 then (e.1, e.2 + h.2) else e
def mergB (b : List (Int × Int)) (e : Int × Int) : List (Int × Int) := match b with
  | [] => []
  | h :: r => if h.1 = e.1 + e.2 then r else h :: r
/-- The list behind a give-back, by the two neighbours: a the holes that end at or ahead of e.1, b those behind. -/
def addF (a b : List (Int × Int)) (e : Int × Int) : List (Int × Int) :=
  match a.getLast? with
  | none => mergE b e :: mergB b e
  | some l => if l.1 + l.2 = e.1 then a.dropLast ++ (l.1, l.2 + (mergE b e).2) :: mergB b e else a ++ mergE b e :: mergB b e

theorem addF_right {n : Int} {b : List (Int × Int)} {e : Int × Int} {lo : Int} (hb : okFrom lo n b) (hl : e.1 + e.2 ≤ n) (h2 : 1 ≤ e.2) (hh : ∀ h ∈ b, e.1 + e.2 ≤ h.1) :
    (mergE b e).1 = e.1 ∧ e.2 ≤ (mergE b e).2 ∧ (mergE b e).1 + (mergE b e).2 ≤ n ∧ okFrom ((mergE b e).1 + (mergE b e).2 + 1) n (mergB b e) ∧
      (∀ x, (decide ((mergE b e).1 ≤ x) && decide (x < (mergE b e).1 + (mergE b e).2) || freeB (mergB b e) x) = (decide (e.1 ≤ x) && decide (x < e.1 + e.2) || freeB b x)) := by
  cases b with
  | nil => exact ⟨rfl, Int.le_refl _, hl, trivial, fun _ => rfl⟩
  | cons h r =>
    obtain ⟨b1, b2, b3, b4⟩ := hb
    have b5 := hh h (by simp)
    simp only [mergE, mergB]
    by_cases c : h.1 = e.1 + e.2
    · simp only [c, if_true]
      refine ⟨trivial, by omega, by omega, b4.mono (by omega), fun x => ?_⟩
      rw [freeB_cons, Bool.eq_iff_iff]
      simp
      constructor
      · rintro (h | h)
        · omega
        · exact .inr (.inr h)
      · rintro (h | h | h)
        · left; omega
        · left; omega
        · exact .inr h
    · simp only [c, if_false]
      exact ⟨trivial, Int.le_refl _, hl, ⟨by omega, b2, b3, b4⟩, fun x => trivial⟩

theorem addF_spec {n : Int} {a b : List (Int × Int)} {e : Int × Int} (hok : okFrom 0 n (a ++ b)) (ha' : ∀ x ∈ a, x.1 + x.2 ≤ e.1) (hb' : ∀ x ∈ b, e.1 + e.2 ≤ x.1) (h0 : 0 ≤ e.1) (h2 : 1 ≤ e.2) (h3 : e.1 + e.2 ≤ n) :
    okFrom 0 n (addF a b e) ∧ ∀ x, freeB (addF a b e) x = (freeB (a ++ b) x || (decide (e.1 ≤ x) && decide (x < e.1 + e.2))) := by
  obtain ⟨ha, hb⟩ := okFrom_append.1 hok
  obtain ⟨r1, r2, r3, r4, r5⟩ := addF_right (e := e) hb h3 h2 hb'
  unfold addF
  generalize mergE b e = e' at *
  generalize mergB b e = b' at *
  rcases List.eq_nil_or_concat a with rfl | ⟨a0, l, rfl⟩
  · simp only [List.getLast?_nil, List.nil_append]
    refine ⟨⟨by omega, by omega, r3, r4⟩, fun x => ?_⟩
    rw [freeB_cons, r5 x, Bool.or_comm]
  · simp only [List.concat_eq_append, List.getLast?_append, List.getLast?_singleton, Option.some_or, List.dropLast_concat]
    simp only [List.concat_eq_append] at ha ha' hb
    obtain ⟨ha1, ha2⟩ := okFrom_append.1 ha
    obtain ⟨l1, l2, l3, _⟩ := ha2
    have l4 := ha' l (by simp)
    by_cases c : l.1 + l.2 = e.1
    · simp only [c, if_true]
      refine ⟨okFrom_append.2 ⟨ha1, ⟨l1, by simp only; omega, by simp only; omega, r4.mono (by simp only; omega)⟩⟩, fun x => ?_⟩
      rw [freeB_append, freeB_cons, freeB_append, freeB_append, freeB_cons, freeB_nil, Bool.or_false]
      have := r5 x
      rw [Bool.eq_iff_iff] at this ⊢
      simp at this ⊢
      constructor
      · rintro (h | h | h)
        · exact .inl (.inl (.inl h))
        · by_cases hx : x < l.1 + l.2
          · exact .inl (.inl (.inr ⟨h.1, hx⟩))
          · have := this.1 (.inl (by omega))
            rcases this with h | h
            · exact .inr h
            · exact .inl (.inr h)
        · rcases this.1 (.inr h) with h | h
          · exact .inr h
          · exact .inl (.inr h)
      · rintro (((h | h) | h) | h)
        · exact .inl h
        · exact .inr (.inl (by omega))
        · rcases this.2 (.inr h) with h | h
          · exact .inr (.inl (by omega))
          · exact .inr (.inr h)
        · rcases this.2 (.inl h) with h | h
          · exact .inr (.inl (by omega))
          · exact .inr (.inr h)
    · simp only [c, if_false]
      refine ⟨okFrom_append.2 ⟨ha, ⟨by rw [nxt_snoc]; omega, by omega, r3, r4⟩⟩, fun x => ?_⟩
      rw [freeB_append, freeB_cons, r5 x, freeB_append (a0 ++ [l]) b]
      cases freeB (a0 ++ [l]) x <;> cases freeB b x <;> simp
end Go.Proofs.Ytkhejipcclpknaa
