/- The walk of ExtentHoles. No statement is proved here. -/
import Derived.Test.YtedalcocdgmigaaExtV
set_option linter.unusedVariables false
set_option linter.unusedSimpArgs false
namespace Go.Proofs.Ytedalcocdgmigaa
open Go.RowKit

theorem drop_at {α : Type} (hs : List α) (k : Nat) (h : k < hs.length) : hs.drop k = hs[k] :: hs.drop (k + 1) := List.drop_eq_getElem_cons h
theorem okFrom.cut_at {n : Int} {hs : List (Int × Int)} (h : okFrom 0 n hs) (k : Nat) (hk : k < hs.length) :
    nxt 0 (hs.take k) ≤ (hs[k]).1 ∧ 1 ≤ (hs[k]).2 ∧ (hs[k]).1 + (hs[k]).2 ≤ n ∧ okFrom ((hs[k]).1 + (hs[k]).2 + 1) n (hs.drop (k + 1)) := by
  have h1 := h
  rw [← List.take_append_drop k hs, drop_at hs k hk] at h1
  exact (okFrom_append.1 h1).2

set_option maxHeartbeats 4000000 in
set_option maxRecDepth 100000 in
theorem holes_walk (n : Int) (a : Option Addr) (len cap : Nat) (xs : Nat → Int × Int × Int) (w : World) (hin : OpsIn w a len xs) :
    Calls Try.prog 8 #[.int .i64 n, .slice a len cap] w fun e w' => e = .returned (.bool true) ∧ Below w.heap.size w w' := by
  have Hin := hid hin
  have hlen := hin.1
  clear hin
  by_cases hq0 : n < 0
  · go_enter Try.func8, Try.ntmps8
    go_wp2_with fail
    refine (anchor_any _).mono ?_
    rintro e w1 ⟨rfl, hb1⟩
    go_wp2_with fail
    refine (new_bad n _ (.inl hq0)).mono ?_
    rintro e w2 ⟨rfl, rfl⟩
    go_wp2_with fail
    all_goals go_ret
    all_goals exact ⟨rfl, hb1⟩
  by_cases hq1 : 4096 < n
  · go_enter Try.func8, Try.ntmps8
    go_wp2_with fail
    refine (anchor_any _).mono ?_
    rintro e w1 ⟨rfl, hb1⟩
    go_wp2_with fail
    refine (new_bad n _ (.inr hq1)).mono ?_
    rintro e w2 ⟨rfl, rfl⟩
    go_wp2_with fail
    all_goals go_ret
    all_goals exact ⟨rfl, hb1⟩
  obtain ⟨N, rfl⟩ := Int.eq_ofNat_of_zero_le (show 0 ≤ n by omega)
  have hN2 : (N : Int) ≤ 4096 := by omega
  go_enter Try.func8, Try.ntmps8
  go_wp2_with fail
  refine (anchor_any _).mono ?_
  rintro e w1 ⟨rfl, hb1⟩
  go_wp2_with fail
  refine (new_good (N : Int) _ (by omega) (by omega)).mono ?_
  rintro e w2 ⟨p, o, rfl, hsp, hp, ho, hb2⟩
  have hb2' : Below w.heap.size w w2 := hb1.trans (hb2.mono hb1.size)
  have hnw : SpNew w.heap.size p o := ⟨Nat.le_trans hb1.size hp, fun k hk => Nat.le_trans hb1.size (ho k hk)⟩
  have Hsp := hid hsp
  have Hnw := hid hnw
  clear hsp ho hp hb1 hb2 hnw hq0 hq1
  go_wp2_with fail
  go_loopw [38] (fun i wr => ∃ (k : Nat) (o' : Option Nat) (hs : List (Int × Int)), k ≤ len ∧ i = .int .i64 k ∧ Hid (Sp wr p o' (N : Int) hs) ∧ Hid (SpNew w.heap.size p o') ∧ Below w.heap.size w wr) (fun i _ => len - (intOf i).toNat)
  case atStart => exact ⟨0, o, _, Nat.zero_le _, rfl, Hsp, Hnw, hb2'⟩
  case round =>
    obtain ⟨k, o', hs, hk, rfl, Hs, Hn, hbel⟩ := hrel
    by_cases hlt : k < len
    · obtain ⟨b, off, rfl, hbl, hc0, hc1, hc2, hx0, hx1, hx2⟩ := Hin.out.2 k hlt
      have q0 := (hbel.cell (p := ⟨b, off + k * 3, none⟩) hbl).trans hc0
      have q1 := (hbel.cell (p := ⟨b, off + k * 3 + 1, none⟩) hbl).trans hc1
      have q2 := (hbel.cell (p := ⟨b, off + k * 3 + 2, none⟩) hbl).trans hc2
      have hk64 : (k : Int) < (len : Int) := by omega
      have hk63 : (k : Int) + 1 ≤ 9223372036854775807 := by omega
      have hba := hid (hbel.alloc hbel.size (.cells #[.int .i64 (xs k).1, .int .i64 (xs k).2.1, .int .i64 (xs k).2.2] 46))
      have Hsa := hid (Hs.out.below ((Below.refl _ wr).alloc (Nat.le_refl _) (.cells #[.int .i64 (xs k).1, .int .i64 (xs k).2.1, .int .i64 (xs k).2.2] 46)))
      clear hc0 hc1 hc2
      generalize hkd : (xs k).1 = kd at *
      generalize hfr : (xs k).2.1 = fr at *
      generalize hct : (xs k).2.2 = ct at *
      clear hkd hfr hct
      by_cases hk1 : kd = 1
      · subst hk1
        go_wp2_with fail
        refine (alloc_whatever p o' (N : Int) ct hs _ Hsa.out hx2.2).mono ?_
        rintro e w3 ⟨v1, v2, o3, hs', rfl, hsp3, hst3⟩
        obtain ⟨hn3, hb3⟩ := Hn.out.step hst3 hba.out.size
        have Hs3 := hid hsp3
        have Hn3 := hid hn3
        have hb3' := hba.out.trans hb3
        clear hsp3 hst3 hn3 hbel hb3
        go_wp2_with fail
        exact ⟨⟨k + 1, o3, hs', by omega, by go_num, Hs3, Hn3, hb3'⟩, by simp [intOf]; omega⟩
      by_cases hk2 : kd = 2
      · subst hk2
        go_wp2_with fail
        refine (take_whatever p o' (N : Int) fr ct hs _ Hsa.out).mono ?_
        rintro e w3 ⟨v1, o3, hs', rfl, hsp3, hst3⟩
        obtain ⟨hn3, hb3⟩ := Hn.out.step hst3 hba.out.size
        have Hs3 := hid hsp3
        have Hn3 := hid hn3
        have hb3' := hba.out.trans hb3
        clear hsp3 hst3 hn3 hbel hb3
        go_wp2_with fail
        exact ⟨⟨k + 1, o3, hs', by omega, by go_num, Hs3, Hn3, hb3'⟩, by simp [intOf]; omega⟩
      by_cases hk3 : kd = 3
      · subst hk3
        go_wp2_with fail
        refine (free_whatever p o' (N : Int) fr ct hs _ Hsa.out).mono ?_
        rintro e w3 ⟨v1, o3, hs', rfl, hsp3, hst3⟩
        obtain ⟨hn3, hb3⟩ := Hn.out.step hst3 hba.out.size
        have Hs3 := hid hsp3
        have Hn3 := hid hn3
        have hb3' := hba.out.trans hb3
        clear hsp3 hst3 hn3 hbel hb3
        go_wp2_with fail
        exact ⟨⟨k + 1, o3, hs', by omega, by go_num, Hs3, Hn3, hb3'⟩, by simp [intOf]; omega⟩
      have e1 : (kd == 1) = false := by simpa using hk1
      have e2 : (kd == 2) = false := by simpa using hk2
      have e3 : (kd == 3) = false := by simpa using hk3
      clear hk1 hk2 hk3 hx0 hx1 hx2
      go_wp2_with fail
      exact ⟨⟨k + 1, o', hs, by omega, by go_num, Hsa, Hn, hba.out⟩, by simp [intOf]; omega⟩
    · have hkN : k = len := by omega
      subst hkN
      clear Hsp Hnw hb2' Hin
      go_wp2_with fail
      refine (holes_any p o' _ hs wr Hs.out).mono ?_
      rintro e w3 ⟨g, c, rfl, owng, hg, hb3⟩
      have Hs3 := hid (Hs.out.below hb3)
      have hb3' := hbel.trans (hb3.mono hbel.size)
      have Hg := hid owng
      have hgl := (own_cells owng).1
      have hpg : g ≠ p := by have := Hs.out.lt.1; omega
      have hog : o' ≠ some g := fun he => by have := Hs.out.lt.2 g he; omega
      have hhn := Hs.out.hn
      have hok := Hs.out.ok
      have Hok := hid hok
      clear owng hb3 hbel Hs hok
      go_wp2_with fail
      go_loopw [10, 11, 12, 73] (fun s e b i wr => ∃ (k : Nat), k ≤ hs.length ∧ i = .int .i64 k ∧ s = .int .i64 (leftOf (hs.take k)) ∧ e = .int .i64 (nxt 0 (hs.take k) - 1) ∧ b = .int .i64 (bigOf (hs.take k)) ∧ Below w3.heap.size w3 wr) (fun _ _ _ i _ => hs.length - (intOf i).toNat)
      case atStart => exact ⟨0, Nat.zero_le _, rfl, rfl, rfl, rfl, Below.refl _ _⟩
      case round =>
        obtain ⟨j, hj, rfl, rfl, rfl, rfl, hbr⟩ := hrel
        by_cases hjl : j < hs.length
        · obtain ⟨k1, k2, k3, k4⟩ := Hok.out.cut_at j hjl
          obtain ⟨_, _, gc⟩ := own_cells (own_below Hg.out hbr)
          obtain ⟨q0, q1⟩ := gc j hjl
          have hlf := (Hok.out.take (j + 1)).left (by omega)
          have hl1 : leftOf (hs.take (j + 1)) = leftOf (hs.take j) + (hs[j]).2 := by rw [take_snoc2 hs j hjl, leftOf_snoc]
          have hx1 : nxt 0 (hs.take (j + 1)) = (hs[j]).1 + (hs[j]).2 + 1 := by rw [take_snoc2 hs j hjl, nxt_snoc]
          have hm1 : bigOf (hs.take (j + 1)) = max (bigOf (hs.take j)) (hs[j]).2 := by rw [take_snoc2 hs j hjl, bigOf_snoc]
          have hn0 := nxt_ge (Hok.out.take j)
          have hl0 := (Hok.out.take j).left (by omega)
          have Hl1 := hid hl1
          have Hx1 := hid hx1
          have Hm1 := hid hm1
          have hlb : leftOf (hs.take j) + (hs[j]).2 ≤ 4096 := by rw [← hl1]; omega
          generalize leftOf (hs.take j) = lf at *
          generalize nxt 0 (hs.take j) = nx at *
          generalize bigOf (hs.take j) = bg at *
          generalize hha : (hs[j]).1 = ha at *
          generalize hhb : (hs[j]).2 = hb at *
          obtain ⟨hlf0, hlf1⟩ := hlf
          obtain ⟨hl00, hl01⟩ := hl0
          clear hl1 hx1 hm1 gc
          by_cases hbb : bg < hb
          · go_wp2_with fail
            exact ⟨⟨j + 1, by omega, by go_num, by rw [Hl1.out], by rw [Hx1.out]; go_num, by rw [Hm1.out, Int.max_eq_right (by omega)], hbr.alloc hbr.size _⟩, by simp [intOf]; omega⟩
          · go_wp2_with fail
            exact ⟨⟨j + 1, by omega, by go_num, by rw [Hl1.out], by rw [Hx1.out]; go_num, by rw [Hm1.out, Int.max_eq_left (by omega)], hbr.alloc hbr.size _⟩, by simp [intOf]; omega⟩
        · have hjN : j = hs.length := by omega
          subst hjN
          have hxN : nxt 0 (hs.take hs.length) - 1 ≤ 4097 := by rw [List.take_length]; have := nxt_le Hok.out (c := (N : Int) + 1) (by omega) (fun x hx => by have := (Hok.out.mem x hx).2.2; omega); omega
          have hx0 := nxt_ge (Hok.out.take hs.length)
          rw [List.take_length] at hxN hx0
          have hl0 := Hok.out.left (by omega)
          simp only [List.take_length]
          generalize hend : nxt 0 hs - 1 = nx at *
          have Hsr := hid (Hs3.out.below hbr)
          have hbr' := hb3'.trans (hbr.mono hb3'.size)
          have Hgr := hid (own_below Hg.out hbr)
          have hglr : g < wr.heap.size := Nat.lt_of_lt_of_le hgl hbr.size
          clear hend hbr Hs3 Hg hb3' hgl
          go_wp2_with fail
          refine (left_any p o' _ hs wr Hsr.out).mono ?_
          rintro e w4 ⟨rfl, hb4⟩
          have Hs4 := hid (Hsr.out.below hb4)
          have hb4' := hbr'.trans (hb4.mono hbr'.size)
          have Hg4 := hid (own_below Hgr.out hb4)
          have hgl4 : g < w4.heap.size := Nat.lt_of_lt_of_le hglr hb4.size
          clear hb4 hbr' Hgr hglr Hsr
          go_wp2_with fail
          refine (largest_any p o' _ hs w4 Hs4.out).mono ?_
          rintro e w5 ⟨rfl, hb5⟩
          have Hs5 := hid (Hs4.out.below hb5)
          have hb5' := hb4'.trans (hb5.mono hb4'.size)
          have Hg5 := hid (own_below Hg4.out hb5)
          have hgl5 : g < w5.heap.size := Nat.lt_of_lt_of_le hgl4 hb5.size
          clear hb5 hb4' Hg4 hgl4 Hs4
          go_wp2_with fail
          go_loopw [123] (fun i wr => ∃ (j : Nat) (o' : Option Nat) (hs' : List (Int × Int)), j ≤ hs.length ∧ i = .int .i64 j ∧ Hid (Sp wr p o' (N : Int) hs') ∧ Hid (∀ x, freeB hs' x = freeB (hs.drop j) x) ∧ Hid (SpNew w.heap.size p o') ∧ Hid (o' ≠ some g) ∧ Hid (wr.ownsRow 0 31 2 (.slice (some ⟨g, 0, none⟩) hs.length c) hs.length (cells2 hs)) ∧ Below w.heap.size w wr) (fun i _ => hs.length - (intOf i).toNat)
          case atStart => exact ⟨0, o', hs, Nat.zero_le _, rfl, Hs5, hid (fun x => rfl), Hn, hid hog, Hg5, hb5'⟩
          case round =>
            clear Hs5 Hn hog Hg5 hb5' hgl5
            obtain ⟨j, o', hs', hj, rfl, Hs, Hf, Hn, Hog, Hg, hbel⟩ := hrel
            by_cases hjl : j < hs.length
            · obtain ⟨k1, k2, k3, k4⟩ := Hok.out.cut_at j hjl
              have hn0 := nxt_ge (Hok.out.take j)
              obtain ⟨hgl, _, gc⟩ := own_cells Hg.out
              obtain ⟨q0, q1⟩ := gc j hjl
              have hfd : ∀ x, freeB hs' x = ((decide ((hs[j]).1 ≤ x) && decide (x < (hs[j]).1 + (hs[j]).2)) || freeB (hs.drop (j + 1)) x) := fun x => by rw [Hf.out, drop_at hs j hjl, freeB_cons]
              have hlow : ∀ x, x < (hs[j]).1 + (hs[j]).2 + 1 → freeB (hs.drop (j + 1)) x = false := fun x hx => k4.low x hx
              generalize hha : (hs[j]).1 = ha at *
              generalize hhb : (hs[j]).2 = hb at *
              have hba := hid (hbel.alloc hbel.size (.cells #[.int .i64 ha, .int .i64 hb] 31))
              have hal := (Below.refl _ wr).alloc (Nat.le_refl _) (.cells #[.int .i64 ha, .int .i64 hb] 31)
              have Hsa := hid (Hs.out.below hal)
              have Hga := hid (own_below Hg.out hal)
              have hgla : g < (wr.alloc (.cells #[.int .i64 ha, .int .i64 hb] 31)).heap.size := Nat.lt_of_lt_of_le hgl hal.size
              have hxc : (wr.alloc (.cells #[.int .i64 ha, .int .i64 hb] 31)).heap[wr.heap.size]? = some (.cells #[.int .i64 ha, .int .i64 hb] 31 (0, 0)) := heap_alloc_new wr _
              have hxp : wr.heap.size ≠ p := by have := Hs.out.lt.1; omega
              have hxo : o' ≠ some wr.heap.size := fun he => by have := Hs.out.lt.2 _ he; omega
              have hxl : wr.heap.size < (wr.alloc (.cells #[.int .i64 ha, .int .i64 hb] 31)).heap.size := blk_lt hxc
              clear gc hbel Hs Hg hgl hal
              have Hfd := hid hfd
              have Hlow := hid hlow
              have Hxc := hid hxc
              have Hxo := hid hxo
              clear hfd hlow hxc hxo Hf k4
              go_wp2_with fail
              generalize wr.alloc (.cells #[.int .i64 ha, .int .i64 hb] 31) = wa at *
              generalize hxb : wr.heap.size = xb at *
              refine (take_any p o' (N : Int) ha hb hs' wa Hsa.out).mono ?_
              have hins : insideB (N : Int) ha hb = true := by simp [insideB]; omega
              have hfree : ∀ x, ha ≤ x → x < ha + hb → freeB hs' x = true := fun x h1 h2 => by rw [Hfd.out]; simp [h1, h2]
              rintro e w6 (⟨h1, _⟩ | ⟨_, ⟨x, hx1, hx2, hx3⟩, _⟩ | ⟨_, hall, hs6, hok6, hfr6, rfl, o6, hsp6, hst6⟩)
              · rw [hins] at h1; cases h1
              · rw [hfree x hx1 hx2] at hx3; cases hx3
              · obtain ⟨hn6, hb6⟩ := Hn.out.step hst6 hba.out.size
                have Hs6 := hid hsp6
                have Hn6 := hid hn6
                have hb6' := hba.out.trans hb6
                obtain ⟨hog6, hgk6⟩ := hst6.aside hpg Hog.out hgla
                have Hog6 := hid hog6
                have Hg6 := hid (own_kept Hga.out hgk6)
                obtain ⟨hxo6, hxk6⟩ := hst6.aside hxp Hxo.out hxl
                have hx6 := hxk6.trans Hxc.out
                have c0 : w6.cell? ⟨xb, 0, none⟩ = some (.int .i64 ha) := by rw [blk_cell hx6]; rfl
                have hfr6' : ∀ x, freeB hs6 x = freeB (hs.drop (j + 1)) x := fun x => by
                  rw [hfr6, Hfd.out]
                  by_cases hx : ha ≤ x ∧ x < ha + hb
                  · rw [Hlow.out x (by omega)]; simp [hx.1, hx.2]
                  · have : (decide (ha ≤ x) && decide (x < ha + hb)) = false := by simp; omega
                    rw [this]; simp
                have Hf6 := hid hfr6'
                clear hsp6 hst6 hn6 hall hok6 hfr6 hfree hins hb6 hog6 hgk6 hxo6 hxk6 hx6 hfr6' Hsa Hn Hog Hga hba hgla Hxc Hxo
                go_wp2_with fail
                refine (take_any p o6 (N : Int) ha 1 hs6 w6 Hs6.out).mono ?_
                have hins : insideB (N : Int) ha 1 = true := by simp [insideB]; omega
                have hno : freeB hs6 ha = false := by rw [Hf6.out]; exact Hlow.out ha (by omega)
                rintro e w7 (⟨h1, _⟩ | ⟨_, _, rfl, hb7⟩ | ⟨_, hall, _⟩)
                · rw [hins] at h1; cases h1
                · have Hs7 := hid (Hs6.out.below hb7)
                  have hb7' := hb6'.trans (hb7.mono hb6'.size)
                  have Hg7 := hid (own_below Hg6.out hb7)
                  clear hb7 hb6' Hs6 Hg6 hins hno c0
                  go_wp2_with fail
                  exact ⟨⟨j + 1, o6, hs6, by omega, by go_num, Hs7, Hf6, Hn6, Hog6, Hg7, hb7'⟩, by simp [intOf]; omega⟩
                · rw [hall ha (by omega) (by omega)] at hno; cases hno
            · have hjN : j = hs.length := by omega
              subst hjN
              have hnil : hs' = [] := okFrom_unique Hs.out.ok (show okFrom 0 (N : Int) [] from trivial) (fun x => by rw [Hf.out, List.drop_length])
              subst hnil
              go_wp2_with fail
              refine (left_any p o' _ [] wr Hs.out).mono ?_
              rintro e w8 ⟨rfl, hb8⟩
              have hb8' := hbel.trans (hb8.mono hbel.size)
              have hl : leftOf [] = 0 := rfl
              rw [hl]
              clear hb8 hbel Hs
              go_wp2_with fail
              go_ret
              exact ⟨rfl, hb8'⟩
end Go.Proofs.Ytedalcocdgmigaa
