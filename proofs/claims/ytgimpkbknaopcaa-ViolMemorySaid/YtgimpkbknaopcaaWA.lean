/- The heap of puts, plain: what up leaves is a heap. No statement is proved here. -/
import Derived.Test.YtgimpkbknaopcaaVI
set_option linter.unusedVariables false
set_option linter.unusedSimpArgs false
namespace Go.Proofs.Ytgimpkbknaopcaa
open Go.Shelf Go.Lib
open Go.Sort hiding Below

/-- A heap but for the edge above node j, whose children are not greater than its parent. -/
theorem up_heap (n : Nat) : ∀ (j : Nat) (d : Array Pt), d.size = n → (j = 0 ∨ j < n) →
    (∀ i, i < n → ∀ k, (k = 2 * i + 1 ∨ k = 2 * i + 2) → k < n → k ≠ j → ltOf cfP d[i]! d[k]! = false) →
    (j ≠ 0 → ∀ c, (c = 2 * j + 1 ∨ c = 2 * j + 2) → c < n → ltOf cfP d[(j - 1) / 2]! d[c]! = false) →
    (∀ i, i < n → Ok (ltOf cfP) 0 n (upA d j) i) ∧ PermIn 0 n d (upA d j) := by
  intro j
  induction j using Nat.strongRecOn with
  | _ j ih =>
    intro d hd hj h1 h2
    have done : (∀ i, i < n → ∀ k, (k = 2 * i + 1 ∨ k = 2 * i + 2) → k < n → ltOf cfP d[i]! d[k]! = false) → upA d j = d →
        (∀ i, i < n → Ok (ltOf cfP) 0 n (upA d j) i) ∧ PermIn 0 n d (upA d j) := by
      intro ha he
      rw [he]
      refine ⟨fun i hi k hk hkn => ?_, permIn_refl d 0 n⟩
      simpa only [Nat.zero_add] using ha i hi k hk hkn
    by_cases hz : j = 0
    · subst hz
      exact done (fun i hi k hk hkn => h1 i hi k hk hkn (by omega)) (upA_zero d)
    · have hjn : j < n := by omega
      obtain ⟨i, hi⟩ : ∃ i, i = (j - 1) / 2 := ⟨_, rfl⟩
      have hij : i < j := by omega
      have hch : j = 2 * i + 1 ∨ j = 2 * i + 2 := by omega
      have h2' : ∀ c, (c = 2 * j + 1 ∨ c = 2 * j + 2) → c < n → ltOf cfP d[i]! d[c]! = false := fun c hc hcn => by rw [hi]; exact h2 hz c hc hcn
      cases hv : ltOf cfP d[i]! d[j]! with
      | false =>
        refine done (fun p hp k hk hkn => ?_) (upA_stop d j (by rw [← hi]; exact hv))
        by_cases hkj : k = j
        · have : p = i := by omega
          subst hkj
          subst this
          exact hv
        · exact h1 p hp k hk hkn hkj
      | true =>
        have he := upA_go d j hz (by rw [← hi]; exact hv)
        rw [← hi] at he
        have hs : (swp d i j).size = n := by rw [size_swp]; exact hd
        have gI : (swp d i j)[i]! = d[j]! := swp_left d i j (by omega) (by omega)
        have gJ : (swp d i j)[j]! = d[i]! := swp_right d i j (by omega)
        have gO : ∀ k, k ≠ i → k ≠ j → (swp d i j)[k]! = d[k]! := fun k a b => swp_other d i j k a b
        have key := ih i hij (swp d i j) hs (.inr (by omega)) (fun p hp k hk hkn hki => by
          by_cases hpi : p = i
          · subst hpi
            rw [gI]
            by_cases hkj : k = j
            · subst hkj
              rw [gJ]
              exact swoP.asym hv
            · rw [gO k hki hkj]
              have h3 := h1 p hp k hk hkn hkj
              cases h4 : ltOf cfP d[j]! d[k]! with
              | false => rfl
              | true => rw [swoP.trans _ _ _ hv h4] at h3; cases h3
          · by_cases hpj : p = j
            · subst hpj
              rw [gJ, gO k hki (by omega)]
              exact h2' k hk hkn
            · rw [gO p hpi hpj, gO k hki (by omega)]
              exact h1 p hp k hk hkn (by omega)) (fun hiz c hc hcn => by
          have hq : (i - 1) / 2 < i := by omega
          rw [gO ((i - 1) / 2) (by omega) (by omega)]
          have hup : ltOf cfP d[(i - 1) / 2]! d[i]! = false := h1 ((i - 1) / 2) (by omega) i (by omega) (by omega) (by omega)
          by_cases hcj : c = j
          · subst hcj
            rw [gJ]
            exact hup
          · rw [gO c (by omega) hcj]
            exact swoP.ntrans _ _ _ hup (h1 i (by omega) c hc hcn hcj))
        rw [he]
        exact ⟨key.1, permIn_trans _ _ _ _ _ (swp_permIn d 0 n i j (Nat.zero_le _) (by omega) (Nat.zero_le _) hjn (by omega)) key.2⟩
end Go.Proofs.Ytgimpkbknaopcaa
