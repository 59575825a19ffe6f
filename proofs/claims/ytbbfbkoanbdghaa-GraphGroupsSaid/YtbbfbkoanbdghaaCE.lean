/- What the groups of a graph say of its ways; fewer labels; plain. No statement is proved here. -/
import Derived.Test.YtbbfbkoanbdghaaCD
import Derived.Test.YtbbfbkoanbdghaaGU
set_option linter.unusedVariables false
set_option linter.unusedSimpArgs false
namespace Go.Proofs.Ytbbfbkoanbdghaa
open Go.RowKit

theorem rt_snoc {R : Nat → Nat → Prop} {a b c : Nat} (h : RT R a b) (k : R b c) : RT R a c := h.trans (.one k)
theorem rt_mono {R S : Nat → Nat → Prop} (h : ∀ a b, R a b → S a b) {a b : Nat} (k : RT R a b) : RT S a b := by
  induction k with
  | refl => exact .refl _
  | step r _ ih => exact .step (h _ _ r) ih
theorem dist_rt {es : List E} {N t : Nat} {mask : Int} {D : Nat → Int} (hD : IsDist es N mask t D) : ∀ (k : Nat) (x : Nat), x < N → D x = (k : Int) → RT (Edge es mask) x t
  | 0, x, hx, hd => by
    have := hD.zero x hx (by simpa using hd)
    subst this
    exact .refl _
  | k + 1, x, hx, hd => by
    obtain ⟨y, hy, he, hb⟩ := hD.back x hx (by omega)
    exact .step he (dist_rt hD k y hy (by omega))
theorem rt_dist {es : List E} {N t : Nat} {mask : Int} {D : Nat → Int} (hD : IsDist es N mask t D) (hok : ∀ e ∈ es, okE N e) {x : Nat} (h : RT (Edge es mask) x t) : 0 ≤ D x := by
  induction h with
  | refl => rw [hD.z]; exact Int.le_refl _
  | @step a b c r _ ih =>
    obtain ⟨h1, h2⟩ := edge_lt hok r
    exact (hD.fwd a b h1 h2 r (ih hD)).1
theorem way_rt {es : List E} {N : Nat} {mask : Int} (hok : ∀ e ∈ es, okE N e) {a b : Nat} (h : Way es N mask a b) : RT (Edge es mask) a b := by
  obtain ⟨D, hD, e, he, h1, h2, h3⟩ := h
  obtain ⟨k1, k2, k3, k4, k5, k6⟩ := hok e he
  obtain ⟨u, hu⟩ := Int.eq_ofNat_of_zero_le k3
  rw [hu] at h3
  have h3 : 0 ≤ D u := h3
  obtain ⟨k, hk⟩ := Int.eq_ofNat_of_zero_le h3
  exact .step ⟨e, he, h1, hu, h2⟩ (dist_rt hD k u (by omega) hk)
theorem rt_way {es : List E} {N : Nat} {mask : Int} (hok : ∀ e ∈ es, okE N e) {a b : Nat} (hD : ∃ D, IsDist es N mask b D) (h : RT (Edge es mask) a b) (hne : a ≠ b) : Way es N mask a b := by
  obtain ⟨D, hD⟩ := hD
  cases h with
  | refl => exact absurd rfl hne
  | @step _ u _ r k =>
    obtain ⟨e, he, h1, h2, h3⟩ := r
    refine ⟨D, hD, e, he, h1, h3, ?_⟩
    rw [h2]
    exact rt_dist hD hok k
theorem wayI_both {es : List E} {N : Nat} {mask : Int} (hok : ∀ e ∈ es, okE N e) {a b : Nat} (ha : a < N) (hb : b < N) (hDa : ∃ D, IsDist es N mask a D) (hDb : ∃ D, IsDist es N mask b D) :
    (a = b ∨ (WayI es N mask a b ∧ WayI es N mask b a)) ↔ (RT (Edge es mask) a b ∧ RT (Edge es mask) b a) := by
  have n1 : nodeB N (a : Int) = true := by simp [nodeB]; omega
  have n2 : nodeB N (b : Int) = true := by simp [nodeB]; omega
  constructor
  · rintro (rfl | ⟨⟨_, _, h1⟩, ⟨_, _, h2⟩⟩)
    · exact ⟨.refl _, .refl _⟩
    · exact ⟨way_rt hok h1, way_rt hok h2⟩
  · rintro ⟨h1, h2⟩
    by_cases e : a = b
    · exact .inl e
    · exact .inr ⟨⟨n1, n2, rt_way hok hDb h1 e⟩, ⟨n2, n1, rt_way hok hDa h2 (fun e' => e e'.symm)⟩⟩
/-! ### there are distances -/
def Pln (R : Nat → Nat → Prop) (t : Nat) : Nat → Nat → Prop
  | 0, x => x = t
  | k + 1, x => ∃ y, R x y ∧ Pln R t k y
theorem least (p : Nat → Prop) (h : ∃ k, p k) : ∃ k, p k ∧ ∀ j, j < k → ¬ p j := by
  classical
  obtain ⟨k, hk⟩ := h
  induction k using Nat.strongRecOn with
  | ind k ih =>
    by_cases hx : ∃ j, j < k ∧ p j
    · obtain ⟨j, hj, hpj⟩ := hx
      exact ih j hj hpj
    · exact ⟨k, hk, fun j hj hpj => hx ⟨j, hj, hpj⟩⟩
theorem dist_exists {es : List E} {N : Nat} (mask : Int) (hok : ∀ e ∈ es, okE N e) (t : Nat) : ∃ D, IsDist es N mask t D := by
  classical
  have hc : ∀ x, ∃ d : Int, (∃ k : Nat, d = (k : Int) ∧ Pln (Edge es mask) t k x ∧ ∀ j, j < k → ¬ Pln (Edge es mask) t j x) ∨ (d = -1 ∧ ∀ k, ¬ Pln (Edge es mask) t k x) := fun x => by
    by_cases h : ∃ k, Pln (Edge es mask) t k x
    · obtain ⟨k, hk, hm⟩ := least _ h
      exact ⟨k, .inl ⟨k, rfl, hk, hm⟩⟩
    · exact ⟨-1, .inr ⟨rfl, fun k hk => h ⟨k, hk⟩⟩⟩
  refine ⟨fun x => Classical.choose (hc x), ?_, fun x _ => ?_, fun x _ hd => ?_, fun x _ hd => ?_, fun x y _ _ he hd => ?_⟩
  · rcases Classical.choose_spec (hc t) with ⟨k, h1, h2, h3⟩ | ⟨_, h2⟩
    · show Classical.choose (hc t) = 0
      by_cases hk : k = 0
      · rw [h1, hk]; rfl
      · exact absurd (show Pln (Edge es mask) t 0 t from rfl) (h3 0 (by omega))
    · exact absurd (show Pln (Edge es mask) t 0 t from rfl) (h2 0)
  · rcases Classical.choose_spec (hc x) with ⟨k, h1, _⟩ | ⟨h1, _⟩ <;> simp only [h1] <;> omega
  · have hd : Classical.choose (hc x) = 0 := hd
    rcases Classical.choose_spec (hc x) with ⟨k, h1, h2, _⟩ | ⟨h1, _⟩
    · have : k = 0 := by omega
      subst this
      exact h2
    · omega
  · have hd : 0 < Classical.choose (hc x) := hd
    rcases Classical.choose_spec (hc x) with ⟨k, h1, h2, h3⟩ | ⟨h1, _⟩
    · obtain ⟨j, rfl⟩ : ∃ j, k = j + 1 := ⟨k - 1, by omega⟩
      obtain ⟨y, hy, hp⟩ := h2
      refine ⟨y, (edge_lt hok hy).2, hy, ?_⟩
      show Classical.choose (hc x) = Classical.choose (hc y) + 1
      rcases Classical.choose_spec (hc y) with ⟨i, k1, k2, k3⟩ | ⟨_, k2⟩
      · have hle : i ≤ j := Nat.le_of_not_lt fun hlt => k3 j hlt hp
        have hge : j ≤ i := Nat.le_of_not_lt fun hlt => h3 (i + 1) (by omega) ⟨y, hy, k2⟩
        rw [h1, k1]
        omega
      · exact absurd hp (k2 j)
    · omega
  · have hd : 0 ≤ Classical.choose (hc y) := hd
    show 0 ≤ Classical.choose (hc x) ∧ Classical.choose (hc x) ≤ Classical.choose (hc y) + 1
    rcases Classical.choose_spec (hc y) with ⟨i, k1, k2, _⟩ | ⟨k1, _⟩
    · have hp : Pln (Edge es mask) t (i + 1) x := ⟨y, he, k2⟩
      rcases Classical.choose_spec (hc x) with ⟨k, h1, h2, h3⟩ | ⟨_, h2⟩
      · have hle : k ≤ i + 1 := Nat.le_of_not_lt fun hlt => h3 (i + 1) hlt hp
        omega
      · exact absurd hp (h2 (i + 1))
    · omega
/-! ### fewer labels -/
theorem inM_odd (lab mask : Int) : inM lab mask = true ↔ mask / 2 ^ (lab.toNat - 1) % 2 = 1 := by
  unfold inM bits
  generalize mask / 2 ^ (lab.toNat - 1) = m
  simp only [beq_iff_eq]
  have h1 : (BitVec.ofInt IntKind.i64.bits m &&& BitVec.ofInt IntKind.i64.bits 1).toNat = (m % 2).toNat := by
    rw [BitVec.toNat_and, BitVec.toNat_ofInt, BitVec.toNat_ofInt]
    show (m % 18446744073709551616).toNat &&& 1 = _
    rw [Nat.and_one_is_mod]
    omega
  rw [h1, IntKind.wrap_i64]
  omega
theorem and_bit (p q k : Nat) (h : (p &&& q) / 2 ^ k % 2 = 1) : p / 2 ^ k % 2 = 1 := by
  have h1 : (p &&& q).testBit k = true := by rw [Nat.testBit_eq_decide_div_mod_eq]; exact decide_eq_true h
  rw [Nat.testBit_and, Bool.and_eq_true] at h1
  have h2 := h1.1
  rw [Nat.testBit_eq_decide_div_mod_eq] at h2
  exact of_decide_eq_true h2
theorem inM_and {lab a b : Int} (h1 : 1 ≤ lab) (h8 : lab ≤ 8) (h : inM lab (bits BinOp.and IntKind.i64 a b) = true) : inM lab a = true := by
  rw [inM_odd] at *
  obtain ⟨r, hr⟩ : ∃ r, r = (BitVec.ofInt IntKind.i64.bits a &&& BitVec.ofInt IntKind.i64.bits b).toNat := ⟨_, rfl⟩
  have hw : bits BinOp.and IntKind.i64 a b = IntKind.i64.wrap (r : Int) := by rw [hr]; rfl
  rw [hw, IntKind.wrap_i64] at h
  have hp : (BitVec.ofInt IntKind.i64.bits a).toNat = (a % 18446744073709551616).toNat := by rw [BitVec.toNat_ofInt]; rfl
  rw [BitVec.toNat_and, hp] at hr
  generalize (BitVec.ofInt IntKind.i64.bits b).toNat = q at hr
  have key : ∀ k : Nat, r / 2 ^ k % 2 = 1 → (a % 18446744073709551616).toNat / 2 ^ k % 2 = 1 := fun k hk => and_bit _ q k (by rw [← hr]; exact hk)
  have hc : lab = 1 ∨ lab = 2 ∨ lab = 3 ∨ lab = 4 ∨ lab = 5 ∨ lab = 6 ∨ lab = 7 ∨ lab = 8 := by omega
  clear hw hr hp
  rcases hc with rfl | rfl | rfl | rfl | rfl | rfl | rfl | rfl
  · have := key 0; simp at *; omega
  · have := key 1; simp at *; omega
  · have := key 2; simp at *; omega
  · have := key 3; simp at *; omega
  · have := key 4; simp at *; omega
  · have := key 5; simp at *; omega
  · have := key 6; simp at *; omega
  · have := key 7; simp at *; omega
theorem edge_and {es : List E} {N : Nat} {a b : Int} (hok : ∀ e ∈ es, okE N e) {x y : Nat} (h : Edge es (bits BinOp.and IntKind.i64 a b) x y) : Edge es a x y := by
  obtain ⟨e, he, h1, h2, h3⟩ := h
  obtain ⟨_, _, _, _, k5, k6⟩ := hok e he
  exact ⟨e, he, h1, h2, inM_and k5 k6 h3⟩
/-! ### numbers of groups -/
def GNum (gs : List (List Nat)) (Q : List Nat) (D : Nat → Int) : Prop := (∀ y ∈ Q, ∃ (i : Nat) (g : List Nat), gs[i]? = some g ∧ y ∈ g ∧ D y = (i : Int) + 1) ∧ ∀ y, y ∉ Q → D y = 0
theorem GNum.start (gs : List (List Nat)) : GNum gs [] (fun _ => 0) := ⟨fun y hy => by simp at hy, fun y _ => rfl⟩
theorem GNum.step {gs : List (List Nat)} {Q : List Nat} {D : Nat → Int} (h : GNum gs Q D) {i y : Nat} {g : List Nat} (hg : gs[i]? = some g) (hy : y ∈ g) : GNum gs (Q ++ [y]) (upd D y ((i : Int) + 1)) := by
  refine ⟨fun z hz => ?_, fun z hz => ?_⟩
  · by_cases e : z = y
    · subst e
      exact ⟨i, g, hg, hy, upd_same _ _ _⟩
    · rw [upd_other e]
      exact h.1 z (by simp at hz; rcases hz with h1 | h1; exact h1; exact absurd h1 e)
  · rw [upd_other (fun e => hz (by simp [e]))]
    exact h.2 z (fun h1 => hz (by simp [h1]))
section
variable {R : Nat → Nat → Prop} {N : Nat} {gs : List (List Nat)}
theorem Grp.uniq (hG : Grp R N gs) {i j y : Nat} {g g' : List Nat} (h1 : gs[i]? = some g) (h2 : gs[j]? = some g') (hy : y ∈ g) (hy' : y ∈ g') : i = j := by
  have hd := flatten_disj gs hG.dis
  rw [List.pairwise_iff_getElem] at hd
  obtain ⟨a1, b1⟩ := List.getElem?_eq_some_iff.1 h1
  obtain ⟨a2, b2⟩ := List.getElem?_eq_some_iff.1 h2
  rcases Nat.lt_trichotomy i j with h | h | h
  · exact absurd (by rw [b2]; exact hy') (hd i j a1 a2 h y (by rw [b1]; exact hy))
  · exact h
  · exact absurd (by rw [b1]; exact hy) (hd j i a2 a1 h y (by rw [b2]; exact hy'))
theorem Grp.mem (hG : Grp R N gs) {y : Nat} : y ∈ gs.flatten ↔ y < N := by
  rw [List.mem_flatten]
  exact ⟨fun ⟨g, hg, hy⟩ => (hG.scc g hg).2.2.1 y hy, fun hy => hG.all y hy⟩
theorem GNum.same {D : Nat → Int} (hG : Grp R N gs) (h : GNum gs gs.flatten D) {a b : Nat} (ha : a < N) (hb : b < N) : D a = D b ↔ (RT R a b ∧ RT R b a) := by
  obtain ⟨i, g, h1, h2, h3⟩ := h.1 a (hG.mem.2 ha)
  obtain ⟨j, g', k1, k2, k3⟩ := h.1 b (hG.mem.2 hb)
  have hs := (hG.scc g (List.mem_of_getElem? h1)).2.2.2 a h2 b
  constructor
  · intro e
    have : i = j := by omega
    subst this
    rw [h1] at k1
    cases k1
    exact hs.1 k2
  · intro e
    have := hG.uniq h1 k1 (hs.2 e) k2
    subst this
    rw [h3, k3]
theorem nodup_sub : ∀ (l m : List Nat), l.Nodup → (∀ x ∈ l, x ∈ m) → l.length ≤ m.length
  | [], m, _, _ => Nat.zero_le _
  | a :: t, m, hn, hs => by
    rw [List.nodup_cons] at hn
    have ha := hs a List.mem_cons_self
    have h1 := nodup_sub t (m.erase a) hn.2 fun x hx => (List.mem_erase_of_ne (fun e => hn.1 (by rw [← e]; exact hx))).2 (hs x (List.mem_cons_of_mem _ hx))
    rw [List.length_erase_of_mem ha] at h1
    have := List.length_pos_of_mem ha
    rw [List.length_cons]
    omega
theorem Grp.len (hG : Grp R N gs) : gs.flatten.length = N := by
  refine Nat.le_antisymm (nodup_le N _ hG.dis fun y hy => hG.mem.1 hy) ?_
  have := nodup_sub (List.range N) gs.flatten List.nodup_range fun x hx => hG.mem.2 (List.mem_range.1 hx)
  rwa [List.length_range] at this
theorem Grp.more {S : Nat → Nat → Prop} {gs2 : List (List Nat)} (hG : Grp R N gs) (hG2 : Grp S N gs2) (hsub : ∀ a b, S a b → R a b) : gs.length ≤ gs2.length := by
  let f : List Nat → Nat := fun g => gs2.findIdx (fun g2 => decide (g.headD 0 ∈ g2))
  have hhd : ∀ g ∈ gs, g.headD 0 ∈ g := fun g hg => by
    have := (hG.scc g hg).1
    cases g with
    | nil => exact absurd rfl this
    | cons z r => exact List.mem_cons_self
  have hf : ∀ g ∈ gs, ∃ g2, gs2[f g]? = some g2 ∧ g.headD 0 ∈ g2 := fun g hg => by
    obtain ⟨g2, h1, h2⟩ := hG2.all (g.headD 0) ((hG.scc g hg).2.2.1 _ (hhd g hg))
    have hlt : f g < gs2.length := List.findIdx_lt_length.2 ⟨g2, h1, by simpa using h2⟩
    exact ⟨gs2[f g], List.getElem?_eq_getElem hlt, of_decide_eq_true (List.findIdx_getElem (w := hlt))⟩
  have hn : (gs.map f).Nodup := by
    refine List.pairwise_map.2 ((flatten_disj gs hG.dis).imp_of_mem fun {a b} ha hb hab e => ?_)
    obtain ⟨g2, h1, h2⟩ := hf a ha
    obtain ⟨g2', k1, k2⟩ := hf b hb
    rw [← e, h1] at k1
    cases k1
    have hr := ((hG2.scc g2 (List.mem_of_getElem? h1)).2.2.2 _ h2 _).1 k2
    exact hab _ (((hG.scc a ha).2.2.2 _ (hhd a ha) _).2 ⟨rt_mono hsub hr.1, rt_mono hsub hr.2⟩) (hhd b hb)
  have := nodup_le gs2.length (gs.map f) hn fun y hy => by
    obtain ⟨g, hg, rfl⟩ := List.mem_map.1 hy
    obtain ⟨g2, h1, _⟩ := hf g hg
    exact (List.getElem?_eq_some_iff.1 h1).1
  rwa [List.length_map] at this
end
end Go.Proofs.Ytbbfbkoanbdghaa
