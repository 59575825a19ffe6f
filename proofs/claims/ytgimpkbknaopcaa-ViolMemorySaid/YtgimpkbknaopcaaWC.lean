/- The document's sort, plain: merged from halves it is the order of the puts; what the row holds, sorted, is its beginning. No statement is proved here. -/
import Derived.Test.YtgimpkbknaopcaaWB
set_option linter.unusedVariables false
set_option linter.unusedSimpArgs false
namespace Go.Proofs.Ytgimpkbknaopcaa

instance (x y : V) : Decidable (ltV x y) := by unfold ltV; infer_instance

def mergeV : List V → List V → List V
  | [], b => b
  | x :: a, [] => x :: a
  | x :: a, y :: b => if ltV y x then y :: mergeV (x :: a) b else x :: mergeV a (y :: b)
termination_by a b => a.length + b.length
def mergeP : List Pt → List Pt → List Pt
  | [], b => b
  | x :: a, [] => x :: a
  | x :: a, y :: b => if ltV y.v x.v then y :: mergeP (x :: a) b else x :: mergeP a (y :: b)
termination_by a b => a.length + b.length
def sortV (l : List V) : List V := if h : l.length < 2 then l else mergeV (sortV (l.take (l.length / 2))) (sortV (l.drop (l.length / 2)))
termination_by l.length
decreasing_by all_goals simp; omega
def sortP (l : List Pt) : List Pt := if h : l.length < 2 then l else mergeP (sortP (l.take (l.length / 2))) (sortP (l.drop (l.length / 2)))
termination_by l.length
decreasing_by all_goals simp; omega

theorem merge_map : ∀ (n : Nat) (a b : List Pt), a.length + b.length ≤ n → mergeV (a.map (·.v)) (b.map (·.v)) = (mergeP a b).map (·.v) := by
  intro n
  induction n with
  | zero =>
    intro a b h
    obtain rfl := List.eq_nil_of_length_eq_zero (show a.length = 0 by omega)
    obtain rfl := List.eq_nil_of_length_eq_zero (show b.length = 0 by omega)
    simp [mergeV, mergeP]
  | succ n ih =>
    intro a b h
    cases a with
    | nil => simp [mergeV, mergeP]
    | cons x a =>
      cases b with
      | nil => simp [mergeV, mergeP]
      | cons y b =>
        simp only [List.length_cons] at h
        simp only [List.map_cons, mergeV, mergeP]
        by_cases hb : ltV y.v x.v
        · rw [if_pos hb, if_pos hb]
          have := ih (x :: a) b (by simp only [List.length_cons]; omega)
          simp only [List.map_cons] at this
          simp [this]
        · rw [if_neg hb, if_neg hb]
          have := ih a (y :: b) (by simp only [List.length_cons]; omega)
          simp only [List.map_cons] at this
          simp [this]
theorem sort_map : ∀ (n : Nat) (l : List Pt), l.length ≤ n → sortV (l.map (·.v)) = (sortP l).map (·.v) := by
  intro n
  induction n with
  | zero =>
    intro l h
    obtain rfl := List.eq_nil_of_length_eq_zero (show l.length = 0 by omega)
    unfold sortV sortP
    simp
  | succ n ih =>
    intro l h
    unfold sortV sortP
    by_cases h2 : l.length < 2
    · rw [dif_pos (by simpa using h2), dif_pos h2]
    · rw [dif_neg (by simpa using h2), dif_neg h2, List.length_map, ← List.map_take, ← List.map_drop, ih _ (by simp; omega), ih _ (by simp; omega)]
      exact merge_map _ _ _ (Nat.le_refl _)
theorem merge_perm : ∀ (n : Nat) (a b : List Pt), a.length + b.length ≤ n → (mergeP a b).Perm (a ++ b) := by
  intro n
  induction n with
  | zero =>
    intro a b h
    obtain rfl := List.eq_nil_of_length_eq_zero (show a.length = 0 by omega)
    obtain rfl := List.eq_nil_of_length_eq_zero (show b.length = 0 by omega)
    simp [mergeP]
  | succ n ih =>
    intro a b h
    cases a with
    | nil => simp [mergeP]
    | cons x a =>
      cases b with
      | nil => simp [mergeP]
      | cons y b =>
        simp only [List.length_cons] at h
        rw [mergeP]
        by_cases hb : ltV y.v x.v
        · rw [if_pos hb]
          exact ((ih (x :: a) b (by simp only [List.length_cons]; omega)).cons y).trans List.perm_middle.symm
        · rw [if_neg hb]
          exact (ih a (y :: b) (by simp only [List.length_cons]; omega)).cons x
theorem not_ltV {x y : Pt} (h : ¬ ltV y.v x.v) (hn : x.num < y.num) : ltP x y := by
  unfold ltP ltV eqV at *
  omega
theorem merge_sorted : ∀ (n : Nat) (a b : List Pt), a.length + b.length ≤ n → a.Pairwise ltP → b.Pairwise ltP → (∀ x ∈ a, ∀ y ∈ b, x.num < y.num) → (mergeP a b).Pairwise ltP := by
  intro n
  induction n with
  | zero =>
    intro a b h _ _ _
    obtain rfl := List.eq_nil_of_length_eq_zero (show a.length = 0 by omega)
    obtain rfl := List.eq_nil_of_length_eq_zero (show b.length = 0 by omega)
    simp [mergeP]
  | succ n ih =>
    intro a b h ha hb hn
    cases a with
    | nil => simpa [mergeP] using hb
    | cons x a =>
      cases b with
      | nil => simpa [mergeP] using ha
      | cons y b =>
        simp only [List.length_cons] at h
        have ha' := List.pairwise_cons.1 ha
        have hb' := List.pairwise_cons.1 hb
        rw [mergeP]
        by_cases hv : ltV y.v x.v
        · rw [if_pos hv, List.pairwise_cons]
          refine ⟨fun z hz => ?_, ih (x :: a) b (by simp only [List.length_cons]; omega) ha hb'.2 (fun p hp q hq => hn p hp q (List.mem_cons_of_mem _ hq))⟩
          have hz' := (merge_perm _ (x :: a) b (Nat.le_refl _)).subset hz
          rcases List.mem_append.1 hz' with h1 | h1
          · rcases List.mem_cons.1 h1 with rfl | h1
            · exact .inl hv
            · exact ltP_trans (.inl hv) (ha'.1 z h1)
          · exact hb'.1 z h1
        · rw [if_neg hv, List.pairwise_cons]
          refine ⟨fun z hz => ?_, ih a (y :: b) (by simp only [List.length_cons]; omega) ha'.2 hb (fun p hp q hq => hn p (List.mem_cons_of_mem _ hp) q hq)⟩
          have hxy : ltP x y := not_ltV hv (hn x (by simp) y (by simp))
          have hz' := (merge_perm _ a (y :: b) (Nat.le_refl _)).subset hz
          rcases List.mem_append.1 hz' with h1 | h1
          · exact ha'.1 z h1
          · rcases List.mem_cons.1 h1 with rfl | h1
            · exact hxy
            · exact ltP_trans hxy (hb'.1 z h1)
theorem sort_perm : ∀ (n : Nat) (l : List Pt), l.length ≤ n → (sortP l).Perm l := by
  intro n
  induction n with
  | zero =>
    intro l h
    obtain rfl := List.eq_nil_of_length_eq_zero (show l.length = 0 by omega)
    unfold sortP
    simp
  | succ n ih =>
    intro l h
    unfold sortP
    by_cases h2 : l.length < 2
    · rw [dif_pos h2]
    · rw [dif_neg h2]
      refine (merge_perm _ _ _ (Nat.le_refl _)).trans ?_
      have := (ih (l.take (l.length / 2)) (by simp; omega)).append (ih (l.drop (l.length / 2)) (by simp; omega))
      rwa [List.take_append_drop] at this
theorem sort_sorted : ∀ (n : Nat) (l : List Pt), l.length ≤ n → l.Pairwise (fun x y => x.num < y.num) → (sortP l).Pairwise ltP := by
  intro n
  induction n with
  | zero =>
    intro l h _
    obtain rfl := List.eq_nil_of_length_eq_zero (show l.length = 0 by omega)
    unfold sortP
    simp
  | succ n ih =>
    intro l h hn
    unfold sortP
    by_cases h2 : l.length < 2
    · rw [dif_pos h2]
      cases l with
      | nil => exact List.Pairwise.nil
      | cons x t =>
        have ht : t = [] := List.eq_nil_of_length_eq_zero (by simp only [List.length_cons] at h2; omega)
        subst ht
        exact List.pairwise_singleton _ _
    · rw [dif_neg h2]
      have hsplit : (l.take (l.length / 2) ++ l.drop (l.length / 2)).Pairwise (fun x y => x.num < y.num) := by rw [List.take_append_drop]; exact hn
      rw [List.pairwise_append] at hsplit
      refine merge_sorted _ _ _ (Nat.le_refl _) (ih _ (by simp; omega) hsplit.1) (ih _ (by simp; omega) hsplit.2.1) (fun x hx y hy => ?_)
      exact hsplit.2.2 x ((sort_perm _ _ (Nat.le_refl _)).subset hx) y ((sort_perm _ _ (Nat.le_refl _)).subset hy)
theorem firsts_take : ∀ (dl S r : List Pt), dl.Pairwise ltP → S.Pairwise ltP → (dl ++ r).Perm S → (∀ x ∈ dl, ∀ y ∈ r, ltP x y) → S.take dl.length = dl
  | [], S, r, _, _, _, _ => by simp
  | x :: dl, S, r, hd, hS, hp, hc => by
    have hd' := List.pairwise_cons.1 hd
    cases S with
    | nil => have := hp.length_eq; simp at this
    | cons s S =>
      have hS' := List.pairwise_cons.1 hS
      have hsx : s = x := by
        have hx : x ∈ s :: S := hp.subset (by simp)
        have hs : s ∈ (x :: dl) ++ r := hp.symm.subset (by simp)
        rcases List.mem_cons.1 hx with rfl | hx
        · rfl
        · exfalso
          have h1 := hS'.1 x hx
          rcases List.mem_append.1 hs with h2 | h2
          · rcases List.mem_cons.1 h2 with rfl | h2
            · exact ltP_irrefl _ h1
            · exact ltP_asymm h1 (hd'.1 s h2)
          · exact ltP_asymm h1 (hc x (by simp) s h2)
      subst hsx
      have hp' : (dl ++ r).Perm S := by
        have : (s :: (dl ++ r)).Perm (s :: S) := hp
        exact this.cons_inv
      have := firsts_take dl S r hd'.2 hS'.2 hp' (fun a ha b hb => hc a (List.mem_cons_of_mem _ ha) b hb)
      simp [this]
/-- The row, sorted, is the beginning of all puts, sorted. -/
theorem Firsts.first {lim : Nat} {all l : List Pt} (h : Firsts lim all l) (hn : all.Pairwise (fun x y => x.num < y.num)) {dl : List Pt} (hp : dl.Perm l) (hs : dl.Pairwise ltP) :
    dl.map (·.v) = (sortV (all.map (·.v))).take lim := by
  obtain ⟨r, hr, hlt⟩ := h.ex
  have hS := sort_sorted _ all (Nat.le_refl _) hn
  have hSp := sort_perm _ all (Nat.le_refl _)
  have h1 := firsts_take dl (sortP all) r hs hS (((List.Perm.append_right r hp).trans hr).trans hSp.symm) (fun x hx y hy => hlt x (hp.subset hx) y hy)
  have hlen : dl.length = min lim all.length := by rw [hp.length_eq, h.len]
  rw [sort_map _ all (Nat.le_refl _), ← List.map_take, ← h1, hlen]
  congr 1
  rw [← hSp.length_eq]
  by_cases hc : lim ≤ (sortP all).length
  · rw [Nat.min_eq_left hc]
  · rw [Nat.min_eq_right (by omega), List.take_of_length_le (Nat.le_refl _), List.take_of_length_le (by omega)]
end Go.Proofs.Ytgimpkbknaopcaa
