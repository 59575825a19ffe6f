/- The space's binary search. No statement is proved here. -/
import Derived.Test.YtkhejipcclpknaaExtA
set_option linter.unusedVariables false
set_option linter.unusedSimpArgs false
namespace Go.Proofs.Ytkhejipcclpknaa
open Go.RowKit

theorem drewN_drewN (w : World) (m k : Nat) : (w.drewN m).drewN k = w.drewN (m + k) := by
  unfold World.drewN; simp [Nat.add_assoc]

set_option maxHeartbeats 400000 in
/-- The test that is handed to the search. -/
theorem test_any (w : World) (bs bb p g k len cap : Nat) (b f c : Int) (hk : k < len) (hl : (len : Int) ≤ 2049) (hf : 0 ≤ f) (hf2 : f ≤ 4096) (hc : 0 ≤ c) (hc2 : c ≤ 4096)
    (c1 : w.cell? ⟨bs, 0, none⟩ = some (.pointer (some ⟨p, 0, none⟩))) (c2 : w.cell? ⟨bb, 0, none⟩ = some (.int .i64 b)) (c3 : w.cell? ⟨p, 1, none⟩ = some (.slice (some ⟨g, 0, none⟩) len cap))
    (c4 : w.cell? ⟨g, k * 2, none⟩ = some (.int .i64 f)) (c5 : w.cell? ⟨g, k * 2 + 1, none⟩ = some (.int .i64 c)) :
    Calls Try.prog 70 #[.int .i64 k, .pointer (some ⟨bs, 0, none⟩), .pointer (some ⟨bb, 0, none⟩)] w fun e w' => e = .returned (.bool (decide (b < f + c))) ∧ ∃ m, w' = w.drewN m := by
  have hk0 : (0 : Int) ≤ (k : Int) := by omega
  have hk1 : (k : Int) < (len : Int) := by omega
  have hfc : IntKind.i64.wrap (f + c) = f + c := by rw [IntKind.wrap_i64]; omega
  go_enter Try.func70, Try.ntmps70
  go_wp2
  go_quiet (fail)
  go_wp2
  go_ret
  exact ⟨rfl, nq, rfl⟩

set_option maxHeartbeats 400000 in
/-- sort.Search over a test that only reads. -/
theorem search_any (w : World) (n : Nat) (a1 a2 : Value) (P : Nat → Bool) (hn : (n : Int) ≤ 1000000) (hmono : ∀ i j, i ≤ j → j < n → P i = true → P j = true)
    (hP : ∀ k m, k < n → Calls Try.prog 70 #[.int .i64 k, a1, a2] (w.drewN m) fun e w' => e = .returned (.bool (P k)) ∧ ∃ m', w' = (w.drewN m).drewN m') :
    Calls Try.prog 69 #[.int .i64 n, .func (.func 70) #[] #[a1, a2]] w fun e w' => (∃ m, w' = w.drewN m) ∧ ∃ i : Nat, e = .returned (.int .i64 i) ∧ i ≤ n ∧ (∀ k, k < i → P k = false) ∧ (∀ k, i ≤ k → k < n → P k = true) := by
  have HP := hid hP
  have HM := hid hmono
  clear hP hmono
  go_enter Try.func69, Try.ntmps69
  go_wp2_with fail
  go_loopw [5, 6, 7] (fun i j h wr => ∃ (x y : Nat) (m : Nat), x ≤ y ∧ y ≤ n ∧ i = .int .i64 x ∧ j = .int .i64 y ∧ wr = w.drewN m ∧ Hid (∀ k, k < x → P k = false) ∧ Hid (∀ k, y ≤ k → k < n → P k = true)) (fun i j _ _ => (intOf j).toNat - (intOf i).toNat)
  case atStart => exact ⟨0, n, 0, Nat.zero_le _, Nat.le_refl _, rfl, rfl, rfl, hid (fun k hk => by omega), hid (fun k h1 h2 => by omega)⟩
  case round =>
    obtain ⟨x, y, m, hxy, hyn, rfl, rfl, rfl, H1, H2⟩ := hrel
    by_cases hlt : x < y
    · obtain ⟨z, hz⟩ : ∃ z, z = (x + y) / 2 := ⟨_, rfl⟩
      have hz1 : x ≤ z := by omega
      have hz2 : z < y := by omega
      have hzz : ((x : Int) + (y : Int)) / 2 = (z : Int) := by omega
      have Hzz := hid hzz
      clear hz hzz
      go_wp2_with fail
      rw [Hzz.out]
      refine (HP.out z m (by omega)).mono ?_
      rintro e w' ⟨rfl, m', rfl⟩
      have hzi : (z : Int) ≤ 1000000 := by omega
      by_cases hpz : P z = true
      · go_wp2_with fail
        refine ⟨⟨x, z, m + m', hz1, by omega, rfl, rfl, rfl, H1, hid fun k h1 h2 => HM.out z k h1 h2 hpz⟩, by simp [intOf]; omega⟩
      · have hpz' : P z = false := by simpa using hpz
        clear hpz
        go_wp2_with fail
        refine ⟨⟨z + 1, y, m + m', by omega, hyn, by go_num, rfl, rfl, hid fun k h1 => ?_, H2⟩, by simp [intOf]; omega⟩
        cases hk : P k with
        | false => rfl
        | true =>
          have := HM.out k z (by omega) (by omega) hk
          rw [hpz'] at this
          cases this
    · go_wp2_with fail
      go_ret
      exact ⟨⟨m, rfl⟩, x, rfl, by omega, H1.out, fun k h1 h2 => H2.out k (by omega) h2⟩

/-- The first hole that ends behind b. -/
def AfterPost (hs : List (Int × Int)) (b : Int) (w : World) (e : Ending) (w' : World) : Prop :=
  Below w.heap.size w w' ∧ ∃ A B, hs = A ++ B ∧ e = .returned (.int .i64 A.length) ∧ (∀ x ∈ A, x.1 + x.2 ≤ b) ∧ (∀ h r, B = h :: r → b < h.1 + h.2)

set_option maxHeartbeats 400000 in
theorem after_any (p : Nat) (o : Option Nat) (n b : Int) (hs : List (Int × Int)) (w : World) (h : Sp w p o n hs) :
    Calls Try.prog 56 #[.pointer (some ⟨p, 0, none⟩), .int .i64 b] w (AfterPost hs b w) := by
  obtain ⟨a, cap, c0, c1, f1, hp, ho, hob, own, hel, hcap, hcm⟩ := h.open
  have hn := h.hn
  have hn1 := h.n1
  have hok := h.ok
  obtain ⟨W, hW⟩ : ∃ W, W = (w.alloc (.cells #[.pointer (some ⟨p, 0, none⟩)] 30)).alloc (.cells #[.int .i64 b] 3) := ⟨_, rfl⟩
  have hbW : Below w.heap.size w W := by rw [hW]; exact ((Below.refl _ _).alloc (Nat.le_refl _) _).alloc (by simp) _
  have k1 : W.cell? ⟨w.heap.size, 0, none⟩ = some (.pointer (some ⟨p, 0, none⟩)) := by
    rw [hW]; simp
  have k2 : W.cell? ⟨w.heap.size + 1, 0, none⟩ = some (.int .i64 b) := by
    rw [hW]; simp
  have k3 := (hbW.cell (p := ⟨p, 1, none⟩) hp).trans c1
  have hs1 := search_any W hs.length (.pointer (some ⟨w.heap.size, 0, none⟩)) (.pointer (some ⟨w.heap.size + 1, 0, none⟩)) (fun k => decide (b < (hs.getD k (0, 0)).1 + (hs.getD k (0, 0)).2)) (by omega)
    (by
      intro i j hij hj hi
      simp at hi ⊢
      rcases Nat.eq_or_lt_of_le hij with rfl | hlt
      · exact hi
      · have hdec : hs = hs.take j ++ hs.drop j := (List.take_append_drop j hs).symm
        have hok2 := hok
        rw [hdec] at hok2
        obtain ⟨ha, hb⟩ := okFrom_append.1 hok2
        have hmem : hs[i] ∈ hs.take j := by
          rw [List.mem_take_iff_getElem]
          exact ⟨i, by omega, rfl⟩
        have h1 := nxt_above ha _ hmem
        have hd : hs.drop j = hs[j] :: hs.drop (j + 1) := List.drop_eq_getElem_cons hj
        rw [hd] at hb
        have h2 := hb.1
        have h3 := hb.2.1
        rw [List.getElem?_eq_getElem (by omega)] at hi ⊢
        simp at hi ⊢
        omega)
    (by
      intro k m hk
      obtain ⟨g, rfl, hog, e0, e1⟩ := hel k hk
      have hm := hok.mem hs[k] (List.getElem_mem hk)
      have hgl := ho g hog
      have q := test_any (W.drewN m) w.heap.size (w.heap.size + 1) p g k hs.length cap b (hs[k]).1 (hs[k]).2 hk hn (by omega) (by omega) (by omega) (by omega) k1 k2 k3 ((hbW.cell (p := ⟨g, k * 2, none⟩) hgl).trans e0) ((hbW.cell (p := ⟨g, k * 2 + 1, none⟩) hgl).trans e1)
      rw [List.getD_eq_getElem?_getD, List.getElem?_eq_getElem hk]
      exact q)
  have Hs := hid hs1
  clear hs1
  subst hW
  clear k1 k2 k3 hel own hob
  go_enter Try.func56, Try.ntmps56
  go_wp2_with fail
  refine Hs.out.mono ?_
  rintro e w' ⟨⟨m, rfl⟩, i, rfl, hi, h1, h2⟩
  go_wp2_with fail
  go_ret
  refine ⟨Below.drewN hbW m, hs.take i, hs.drop i, (List.take_append_drop i hs).symm, by rw [List.length_take, Nat.min_eq_left hi]; rfl, ?_, ?_⟩
  · intro x hx
    rw [List.mem_take_iff_getElem] at hx
    obtain ⟨j, hj, rfl⟩ := hx
    have := h1 j (by omega)
    simp at this
    rw [List.getElem?_eq_getElem (by omega)] at this
    simpa using this
  · intro h r hr
    have hlt : i < hs.length := by
      rcases Nat.lt_or_ge i hs.length with h | h
      · exact h
      · rw [List.drop_of_length_le h] at hr; cases hr
    rw [List.drop_eq_getElem_cons hlt] at hr
    injection hr with hr1 hr2
    have := h2 i (Nat.le_refl _) hlt
    simp at this
    rw [List.getElem?_eq_getElem hlt] at this
    subst hr1
    simpa using this
end Go.Proofs.Ytkhejipcclpknaa
