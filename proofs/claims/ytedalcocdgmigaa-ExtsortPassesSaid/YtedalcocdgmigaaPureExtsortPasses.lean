/- ExtsortPasses: the number of passes that is told is the least power of fan that is at least the runs, and one pass makes of runs a fan-th of them, rounded up. It holds for every two ints, without a condition. -/
import Derived.Test.YtedalcocdgmigaaPExtsortPassesx1
namespace Go.Proofs.Ytedalcocdgmigaa.Pure
open Go.RowKit Go.Proofs.Ytedalcocdgmigaa.PExtsortPasses Go.Proofs.YtedalcocdgmigaaW.PrintWords Go.Proofs.YtedalcocdgmigaaW.PrintLast

theorem np_dec (f n : Nat) (hf : 2 ≤ f) (hn : 2 ≤ n) : (n - 1) / f + 1 < n := by
  have h1 : (n - 1) / f ≤ (n - 1) / 2 := Nat.div_le_div_left hf (by omega)
  omega

/-- How many passes n runs need. -/
def np (f n : Nat) : Nat := if h : 2 ≤ f ∧ 2 ≤ n then np f ((n - 1) / f + 1) + 1 else 0
termination_by n
decreasing_by exact np_dec f n h.1 h.2

theorem np_step (f n : Nat) (hf : 2 ≤ f) (hn : 2 ≤ n) : np f n = np f ((n - 1) / f + 1) + 1 := by
  rw [np, dif_pos ⟨hf, hn⟩]
theorem np_zero (f n : Nat) (hn : n < 2) : np f n = 0 := by
  rw [np, dif_neg (by omega)]

theorem np_le (f : Nat) (hf : 2 ≤ f) : ∀ (k n : Nat), n ≤ 2 ^ k → np f n ≤ k := by
  intro k
  induction k with
  | zero => intro n hn; rw [np_zero f n (by simp at hn; omega)]; omega
  | succ k ih =>
    intro n hn
    by_cases h : 2 ≤ n
    · rw [np_step f n hf h]
      have h1 : (n - 1) / f ≤ (n - 1) / 2 := Nat.div_le_div_left hf (by omega)
      have := ih ((n - 1) / f + 1) (by rw [Nat.pow_succ] at hn; omega)
      omega
    · rw [np_zero f n (by omega)]; omega

theorem np_le63 (f n : Nat) (hf : 2 ≤ f) (hn : n < 2 ^ 63) : np f n ≤ 63 := np_le f hf 63 n (by omega)

/-- What one pass makes of n runs, in the program's own words. -/
theorem one_pass (f n : Nat) (hn : 2 ≤ n) (hn2 : n < 2 ^ 63) :
    wrap64 ((wrap64 (Int.tdiv (wrap64 ((n : Int) - 1)) (f : Int))) + 1) = (((n - 1) / f + 1 : Nat) : Int) := by
  have h0 : wrap64 ((n : Int) - 1) = ((n - 1 : Nat) : Int) := by unfold wrap64; omega
  have h2 : (n - 1) / f ≤ n - 1 := Nat.div_le_self _ _
  have h1 : Int.tdiv ((n - 1 : Nat) : Int) (f : Int) = (((n - 1) / f : Nat) : Int) := by
    rw [Int.tdiv_eq_ediv_of_nonneg (by omega)]; rfl
  rw [h0, h1]
  generalize (n - 1) / f = q at *
  unfold wrap64
  omega

theorem passes_l0 (f : Nat) (hf : 2 ≤ f) (hf2 : f ≤ 64) : ∀ (c n p k : Nat), n < 2 ^ 63 → np f n = c → c < k → p + c ≤ 1000 →
    extsort_Passes.l0 k (f : Int) (p : Int) (n : Int) = some ((p + c : Nat) : Int) := by
  intro c
  induction c with
  | zero =>
    intro n p k hn hc hk hp
    obtain ⟨k, rfl⟩ : ∃ m, k = m + 1 := ⟨k - 1, by omega⟩
    have h2 : ¬ 2 ≤ n := by
      intro h; rw [np_step f n hf h] at hc; omega
    simp only [extsort_Passes.l0]
    rw [if_pos (by omega), if_pos (by omega), if_neg (by omega)]
    rfl
  | succ c ih =>
    intro n p k hn hc hk hp
    obtain ⟨k, rfl⟩ : ∃ m, k = m + 1 := ⟨k - 1, by omega⟩
    have h2 : 2 ≤ n := by
      by_cases h : 2 ≤ n
      · exact h
      · rw [np_zero f n (by omega)] at hc; omega
    have hd := np_dec f n hf h2
    simp only [extsort_Passes.l0]
    rw [if_pos (by omega), if_pos (by omega), if_pos (by omega), if_neg (by omega), one_pass f n h2 hn]
    rw [show wrap64 ((p : Int) + 1) = ((p + 1 : Nat) : Int) by unfold wrap64; omega]
    rw [np_step f n hf h2] at hc
    rw [ih _ (p + 1) k (by omega) (by omega) (by omega) (by omega)]
    congr 2; omega

theorem ref_l0 (f runs : Nat) (hf : 2 ≤ f) (hf2 : f ≤ 64) (hr : runs < 2 ^ 63) (hr1 : 1 ≤ runs) : ∀ (c power p k : Nat), 1 ≤ power → power ≤ runs →
    np f ((runs - 1) / power + 1) = c → c < k → p + c ≤ 1000 →
    proctorref12_Passes.l0 k (runs : Int) (f : Int) (p : Int) (power : Int) = some ((p + c : Nat) : Int) := by
  intro c
  induction c with
  | zero =>
    intro power p k hp0 hpl hc hk hp
    obtain ⟨k, rfl⟩ : ∃ m, k = m + 1 := ⟨k - 1, by omega⟩
    have h2 : ¬ 2 ≤ (runs - 1) / power + 1 := by
      intro h; rw [np_step f _ hf h] at hc; omega
    have h3 : runs - 1 < power := by
      rcases Nat.lt_or_ge (runs - 1) power with h | h
      · exact h
      · have := Nat.div_pos h hp0; omega
    simp only [proctorref12_Passes.l0]
    rw [if_neg (by omega)]
    rfl
  | succ c ih =>
    intro power p k hp0 hpl hc hk hp
    obtain ⟨k, rfl⟩ : ∃ m, k = m + 1 := ⟨k - 1, by omega⟩
    have h2 : 2 ≤ (runs - 1) / power + 1 := by
      by_cases h : 2 ≤ (runs - 1) / power + 1
      · exact h
      · rw [np_zero f _ (by omega)] at hc; omega
    have h3 : power < runs := by
      rcases Nat.lt_or_ge (runs - 1) power with h | h
      · rw [Nat.div_eq_of_lt h] at h2; omega
      · omega
    rw [np_step f _ hf h2, Nat.add_sub_cancel, Nat.div_div_eq_div_mul] at hc
    have hq : Int.tdiv (runs : Int) (f : Int) = ((runs / f : Nat) : Int) := by
      rw [Int.tdiv_eq_ediv_of_nonneg (by omega)]; rfl
    have hq2 : runs / f ≤ runs := Nat.div_le_self _ _
    have hw : wrap64 ((runs / f : Nat) : Int) = ((runs / f : Nat) : Int) := by
      generalize runs / f = q at *; unfold wrap64; omega
    have hp1 : wrap64 ((p : Int) + 1) = ((p + 1 : Nat) : Int) := by unfold wrap64; omega
    simp only [proctorref12_Passes.l0]
    rw [if_pos (by omega), if_neg (by omega), hq, hw, hp1]
    clear hq hw hp1 hq2
    by_cases hgt : runs / f < power
    · rw [if_pos (Int.ofNat_lt.2 hgt)]
      have hlt : runs < power * f := (Nat.div_lt_iff_lt_mul (by omega)).1 hgt
      rw [Nat.div_eq_of_lt (by omega), np_zero f _ (by omega)] at hc
      congr 2; omega
    · rw [if_neg (fun h => hgt (Int.ofNat_lt.1 h))]
      have hle : power * f ≤ runs := (Nat.le_div_iff_mul_le (by omega)).1 (Nat.le_of_not_lt hgt)
      have hm : wrap64 ((power : Int) * (f : Int)) = ((power * f : Nat) : Int) := by
        rw [← Int.natCast_mul]; generalize power * f = q at *; unfold wrap64; omega
      rw [hm, ih (power * f) (p + 1) k (Nat.mul_pos hp0 (by omega)) hle (by omega) (by omega) (by omega)]
      congr 2; omega

theorem law_l0 (f runs N : Nat) (hf : 2 ≤ f) (hf2 : f ≤ 64) (hr : runs < 2 ^ 63) (hr2 : 2 ≤ runs) (hN : np f runs = N) :
    ∀ (c n i k : Nat), n < 2 ^ 63 → 1 ≤ n → np f n = c → i + c = N → c + N + 2 < k →
    proctorlaw12_ExtsortPasses.l0 k (runs : Int) (f : Int) (N : Int) (n : Int) (i : Int) = some true := by
  have hN63 := np_le63 f runs hf hr
  intro c
  induction c with
  | zero =>
    intro n i k hn hn1 hc hi hk
    obtain ⟨k, rfl⟩ : ∃ m, k = m + 1 := ⟨k - 1, by omega⟩
    have h2 : ¬ 2 ≤ n := by
      intro h; rw [np_step f _ hf h] at hc; omega
    have hd := np_dec f runs hf hr2
    have hs := np_step f runs hf hr2
    simp only [proctorlaw12_ExtsortPasses.l0]
    rw [if_neg (by omega), if_pos (by omega), if_neg (by omega), one_pass f runs hr2 hr]
    have := passes_l0 f hf hf2 (N - 1) ((runs - 1) / f + 1) 0 k (by omega) (by omega) (by omega) (by omega)
    unfold extsort_Passes.f
    rw [show ((0 : Int)) = ((0 : Nat) : Int) from rfl, this]
    simp only [Option.bind_some]
    congr 1
    rw [beq_iff_eq]
    unfold wrap64; omega
  | succ c ih =>
    intro n i k hn hn1 hc hi hk
    obtain ⟨k, rfl⟩ : ∃ m, k = m + 1 := ⟨k - 1, by omega⟩
    have h2 : 2 ≤ n := by
      by_cases h : 2 ≤ n
      · exact h
      · rw [np_zero f _ (by omega)] at hc; omega
    have hd := np_dec f n hf h2
    rw [np_step f _ hf h2] at hc
    simp only [proctorlaw12_ExtsortPasses.l0]
    rw [if_pos (by omega), if_neg (by omega), if_neg (by omega), one_pass f n h2 hn]
    rw [show wrap64 ((i : Int) + 1) = ((i + 1 : Nat) : Int) by unfold wrap64; omega]
    exact ih _ (i + 1) k (by omega) (Nat.le_add_left 1 _) (by omega) (by omega) (by omega)

theorem passes_bad (k : Nat) (runs fan : Int) (h : fan < 2 ∨ 64 < fan ∨ runs < 2) : extsort_Passes.f (k + 1) runs fan = some 0 := by
  unfold extsort_Passes.f
  simp only [extsort_Passes.l0]
  rcases h with h | h | h
  · rw [if_neg (by omega)]
  · by_cases h2 : fan ≥ 2
    · rw [if_pos h2, if_neg (by omega)]
    · rw [if_neg h2]
  · by_cases h2 : fan ≥ 2
    · rw [if_pos h2]
      by_cases h3 : fan ≤ 64
      · rw [if_pos h3, if_neg (by omega)]
      · rw [if_neg h3]
    · rw [if_neg h2]

theorem wf_bounds {a : Int} (h : (Lit.int .i64 a).wf = true) : -9223372036854775808 ≤ a ∧ a ≤ 9223372036854775807 := by
  simp [Lit.wf] at h
  first | exact h | (constructor <;> simp_all <;> omega)

theorem ExtsortPasses : proctorlaw12_ExtsortPasses.Pure := by
  intro runs fan w0 w1
  have b0 := wf_bounds w0
  have b1 := wf_bounds w1
  refine ⟨1000, ?_⟩
  unfold proctorlaw12_ExtsortPasses.f
  have h65 : extsort_Passes.f 1000 65 8 = some 3 := by decide +kernel
  rw [h65]
  simp only [Option.bind_some, if_true]
  by_cases hf : 2 ≤ fan
  · by_cases hf2 : fan ≤ 64
    · by_cases hr : 2 ≤ runs
      · obtain ⟨f, rfl⟩ := Int.eq_ofNat_of_zero_le (show 0 ≤ fan by omega)
        obtain ⟨r, rfl⟩ := Int.eq_ofNat_of_zero_le (show 0 ≤ runs by omega)
        have hr63 : r < 2 ^ 63 := by omega
        have hN := np_le63 f r (by omega) hr63
        have hN1 := np_step f r (by omega) (by omega)
        have e1 := passes_l0 f (by omega) (by omega) (np f r) r 0 1000 hr63 rfl (by omega) (by omega)
        unfold extsort_Passes.f
        rw [show ((0 : Int)) = ((0 : Nat) : Int) from rfl, e1]
        simp only [Option.bind_some]
        rw [if_neg (by omega), if_neg (by omega)]
        simp only [proctorlaw12_ExtsortPasses.j0, proctorlaw12_ExtsortPasses.j1]
        rw [if_neg (by simp; omega), if_neg (by omega), if_neg (by omega)]
        have e2 := ref_l0 f r (by omega) (by omega) hr63 (by omega) (np f r) 1 0 998 (by omega) (by omega) (by rw [Nat.div_one]; congr 1; omega) (by omega) (by omega)
        unfold proctorref12_Passes.f
        rw [if_neg (by omega)]
        simp only [proctorref12_Passes.j0]
        rw [if_neg (by simp; omega)]
        rw [show ((0 : Int)) = ((0 : Nat) : Int) from rfl, show ((1 : Int)) = ((1 : Nat) : Int) from rfl, e2]
        simp only [Option.bind_some]
        rw [if_neg (by simp)]
        have e3 := law_l0 f r (np f r) (by omega) (by omega) hr63 (by omega) rfl (np f r) r 0 998 hr63 (by omega) rfl (by omega) (by omega)
        rw [Nat.zero_add]
        exact e3
      · rw [passes_bad 999 runs fan (.inr (.inr (by omega)))]
        simp only [Option.bind_some]
        rw [if_neg (by omega), if_neg (by omega)]
        simp only [proctorlaw12_ExtsortPasses.j0]
        rw [if_pos (by simp; omega)]
        rfl
    · rw [passes_bad 999 runs fan (.inr (.inl (by omega)))]
      simp only [Option.bind_some]
      rw [if_neg (by omega), if_pos (by omega)]
      simp only [proctorlaw12_ExtsortPasses.j0]
      rfl
  · rw [passes_bad 999 runs fan (.inl (by omega))]
    simp only [Option.bind_some]
    rw [if_pos (by omega)]
    simp only [proctorlaw12_ExtsortPasses.j0]
    rfl

end Go.Proofs.Ytedalcocdgmigaa.Pure
