/- The document's space: Take, Free, Largest, Alloc. No statement is proved here. -/
import Derived.Test.YtedalcocdgmigaaRefB
set_option linter.unusedVariables false
set_option linter.unusedSimpArgs false
namespace Go.Proofs.Ytedalcocdgmigaa
open Go.RowKit

/-- The list tells the holes. -/
def Agree (hs : List (Int × Int)) (us : List Bool) (n : Int) : Prop := ∀ x, 0 ≤ x → x < n → freeB hs x = !usedAt us x
/-- A span of the reference is turned to free (v) or used. -/
def RStep (r u : Nat) (n : Int) (us : List Bool) (f c : Int) (v : Bool) (w w' : World) : Prop := ∃ us', Rf w' r u n us' ∧ Upd (fun k => k = u) w w' ∧ ∀ x, 0 ≤ x → usedAt us' x = if f ≤ x ∧ x < f + c then v else usedAt us x

def RTakePost (f c : Int) (r u : Nat) (n : Int) (us : List Bool) (hs : List (Int × Int)) (w : World) (e : Ending) (w' : World) : Prop :=
  (insideB n f c = false ∧ e = .returned (.int .i64 43) ∧ Below w.heap.size w w') ∨
  (insideB n f c = true ∧ (∃ x, f ≤ x ∧ x < f + c ∧ freeB hs x = false) ∧ e = .returned (.int .i64 45) ∧ Below w.heap.size w w') ∨
  (insideB n f c = true ∧ (∀ x, f ≤ x → x < f + c → freeB hs x = true) ∧ e = .returned (.int .i64 0) ∧ RStep r u n us f c true w w')
set_option maxHeartbeats 1000000 in
theorem rtake_any (r u : Nat) (n f c : Int) (us : List Bool) (hs : List (Int × Int)) (w : World) (h : Rf w r u n us) (hag : Agree hs us n) (hf : -9223372036854775808 ≤ f) (hc : -9223372036854775808 ≤ c) (hf1 : f ≤ 9223372036854775807) (hc1 : c ≤ 9223372036854775807) :
    Calls Try.prog 30 #[.pointer (some ⟨r, 0, none⟩), .int .i64 f, .int .i64 c] w (RTakePost f c r u n us hs w) := by
  have H := hid h
  have Hag := hid hag
  have hl := h.len
  have hn1 := h.n1
  clear h hag
  go_enter Try.func30, Try.ntmps30
  go_wp2_with fail
  refine (rinside_any r u n f c us w H.out hf hc hf1 hc1).mono ?_
  rintro e w1 ⟨rfl, hb1⟩
  have H1 := hid (H.out.below hb1)
  cases hi : insideB n f c
  · go_wp2_with fail
    go_ret
    exact .inl ⟨hi, rfl, hb1⟩
  · have hins := insideB_true hi
    obtain ⟨F, rfl⟩ := Int.eq_ofNat_of_zero_le hins.2.1
    obtain ⟨C, rfl⟩ := Int.eq_ofNat_of_zero_le (show 0 ≤ c by omega)
    obtain ⟨g1, g2, g3, g4⟩ := hins
    have hFC : F + C ≤ us.length := by omega
    have Hi := hid hi
    clear hi
    go_wp2_with fail
    refine (rall_any r u n F C false us w1 H1.out hFC).mono ?_
    rintro e w2 ⟨b, rfl, hb2, ht, hff⟩
    have H2 := hid (H1.out.below hb2)
    have hb2' := hb1.trans (hb2.mono hb1.size)
    have hag : ∀ x, (F : Int) ≤ x → x < (F : Int) + C → freeB hs x = !usedAt us x := fun x h1 h2 => Hag.out x (by omega) (by omega)
    have Hag2 := hid hag
    have Ht := hid ht
    have Hff := hid hff
    clear ht hff hag hb2 hb1
    cases b
    · go_wp2_with fail
      go_ret
      obtain ⟨x, h1, h2, h3⟩ := Hff.out (by simp)
      exact .inr (.inl ⟨Hi.out, ⟨x, h1, h2, by rw [Hag2.out x h1 h2, h3]; rfl⟩, rfl, hb2'⟩)
    · go_wp2_with fail
      refine (rmark_any r u n F C true us w2 H2.out hFC).mono ?_
      rintro e w3 ⟨x, us', rfl, hr3, hu3, hx3⟩
      have H3 := hid hr3
      have Hx3 := hid hx3
      have Hu3 := hid hu3
      clear hr3 hu3 hx3
      go_wp2_with fail
      go_ret
      exact .inr (.inr ⟨Hi.out, fun x h1 h2 => by rw [Hag2.out x h1 h2, Ht.out (by simp) x h1 h2]; rfl, rfl, us', H3.out, (Upd.of_new hb2').trans Hu3.out (fun i _ hi => hi), Hx3.out⟩)

def RFreePost (f c : Int) (r u : Nat) (n : Int) (us : List Bool) (hs : List (Int × Int)) (w : World) (e : Ending) (w' : World) : Prop :=
  (insideB n f c = false ∧ e = .returned (.int .i64 43) ∧ Below w.heap.size w w') ∨
  (insideB n f c = true ∧ (∃ x, f ≤ x ∧ x < f + c ∧ freeB hs x = true) ∧ e = .returned (.int .i64 44) ∧ Below w.heap.size w w') ∨
  (insideB n f c = true ∧ (∀ x, f ≤ x → x < f + c → freeB hs x = false) ∧ e = .returned (.int .i64 0) ∧ RStep r u n us f c false w w')
set_option maxHeartbeats 1000000 in
theorem rfree_any (r u : Nat) (n f c : Int) (us : List Bool) (hs : List (Int × Int)) (w : World) (h : Rf w r u n us) (hag : Agree hs us n) (hf : -9223372036854775808 ≤ f) (hc : -9223372036854775808 ≤ c) (hf1 : f ≤ 9223372036854775807) (hc1 : c ≤ 9223372036854775807) :
    Calls Try.prog 31 #[.pointer (some ⟨r, 0, none⟩), .int .i64 f, .int .i64 c] w (RFreePost f c r u n us hs w) := by
  have H := hid h
  have Hag := hid hag
  have hl := h.len
  have hn1 := h.n1
  clear h hag
  go_enter Try.func31, Try.ntmps31
  go_wp2_with fail
  refine (rinside_any r u n f c us w H.out hf hc hf1 hc1).mono ?_
  rintro e w1 ⟨rfl, hb1⟩
  have H1 := hid (H.out.below hb1)
  cases hi : insideB n f c
  · go_wp2_with fail
    go_ret
    exact .inl ⟨hi, rfl, hb1⟩
  · have hins := insideB_true hi
    obtain ⟨F, rfl⟩ := Int.eq_ofNat_of_zero_le hins.2.1
    obtain ⟨C, rfl⟩ := Int.eq_ofNat_of_zero_le (show 0 ≤ c by omega)
    obtain ⟨g1, g2, g3, g4⟩ := hins
    have hFC : F + C ≤ us.length := by omega
    have Hi := hid hi
    clear hi
    go_wp2_with fail
    refine (rall_any r u n F C true us w1 H1.out hFC).mono ?_
    rintro e w2 ⟨b, rfl, hb2, ht, hff⟩
    have H2 := hid (H1.out.below hb2)
    have hb2' := hb1.trans (hb2.mono hb1.size)
    have hag : ∀ x, (F : Int) ≤ x → x < (F : Int) + C → freeB hs x = !usedAt us x := fun x h1 h2 => Hag.out x (by omega) (by omega)
    have Hag2 := hid hag
    have Ht := hid ht
    have Hff := hid hff
    clear ht hff hag hb2 hb1
    cases b
    · go_wp2_with fail
      go_ret
      obtain ⟨x, h1, h2, h3⟩ := Hff.out (by simp)
      exact .inr (.inl ⟨Hi.out, ⟨x, h1, h2, by rw [Hag2.out x h1 h2, h3]; rfl⟩, rfl, hb2'⟩)
    · go_wp2_with fail
      refine (rmark_any r u n F C false us w2 H2.out hFC).mono ?_
      rintro e w3 ⟨x, us', rfl, hr3, hu3, hx3⟩
      have H3 := hid hr3
      have Hx3 := hid hx3
      have Hu3 := hid hu3
      clear hr3 hu3 hx3
      go_wp2_with fail
      go_ret
      exact .inr (.inr ⟨Hi.out, fun x h1 h2 => by rw [Hag2.out x h1 h2, Ht.out (by simp) x h1 h2]; rfl, rfl, us', H3.out, (Upd.of_new hb2').trans Hu3.out (fun i _ hi => hi), Hx3.out⟩)

set_option maxHeartbeats 1000000 in
theorem rlargest_any (r u : Nat) (n : Int) (us : List Bool) (hs : List (Int × Int)) (w : World) (h : Rf w r u n us) (hok : okFrom 0 n hs) (hag : Agree hs us n) :
    Calls Try.prog 23 #[.pointer (some ⟨r, 0, none⟩)] w fun e w' => e = .returned (.int .i64 (bigOf hs)) ∧ Below w.heap.size w w' := by
  have H := hid h
  have hlen : (hs.length : Int) ≤ 4097 := by
    have := hok.len (by have := h.len; omega)
    have := h.n1
    omega
  go_enter Try.func23, Try.ntmps23
  go_wp2_with fail
  refine (rholes_any r u n us hs w H.out hok hag).mono ?_
  rintro e w1 ⟨v, rfl, hown, hb1⟩
  obtain ⟨a, cap, rfl, hel⟩ := own2_slice hown
  have Hel := hid hel
  clear h hok hag H hown hel
  go_wp2_with fail
  go_loopw [3, 5] (fun s i wr => ∃ k : Nat, k ≤ hs.length ∧ i = .int .i64 k ∧ s = .int .i64 (bigOf (hs.take k)) ∧ Below w1.heap.size w1 wr) (fun _ i _ => hs.length - (intOf i).toNat)
  case atStart => exact ⟨0, Nat.zero_le _, rfl, rfl, Below.refl _ _⟩
  case round =>
    obtain ⟨k, hk, rfl, rfl, hbel⟩ := hrel
    by_cases hlt : k < hs.length
    · obtain ⟨g, rfl, _, hgl, e0, e1⟩ := Hel.out k hlt
      have e1' := (hbel.cell (p := ⟨g, k * 2 + 1, none⟩) hgl).trans e1
      have hs1 := hid (show bigOf (hs.take (k + 1)) = max (bigOf (hs.take k)) (hs[k]).2 by rw [take_snoc2 hs k hlt, bigOf_snoc])
      clear e0 e1
      generalize (hs[k]).2 = y at *
      generalize bigOf (hs.take k) = z at *
      by_cases hyz : z < y
      · go_wp2_with fail
        exact ⟨⟨k + 1, by omega, by go_num, by rw [hs1.out, Int.max_eq_right (by omega)], hbel⟩, by simp [intOf]; omega⟩
      · go_wp2_with fail
        exact ⟨⟨k + 1, by omega, by go_num, by rw [hs1.out, Int.max_eq_left (by omega)], hbel⟩, by simp [intOf]; omega⟩
    · have hkN : k = hs.length := by omega
      subst hkN
      go_wp2_with fail
      go_ret
      exact ⟨by simp [List.take_of_length_le], hb1.trans (hbel.mono hb1.size)⟩

set_option maxHeartbeats 1000000 in
theorem ralloc_bad (r : Nat) (c : Int) (w : World) (hc : c < 1) :
    Calls Try.prog 29 #[.pointer (some ⟨r, 0, none⟩), .int .i64 c] w fun e w' => e = .returned (.tuple #[.int .i64 0, .int .i64 41]) ∧ Below w.heap.size w w' := by
  go_enter Try.func29, Try.ntmps29
  go_wp2_with fail
  go_ret2
  exact ⟨rfl, Below.refl _ _⟩

def RAllocPost (c : Int) (r u : Nat) (n : Int) (us : List Bool) (hs : List (Int × Int)) (w : World) (e : Ending) (w' : World) : Prop :=
  (∃ A h B, hs = A ++ h :: B ∧ (∀ a ∈ A, a.2 < c) ∧ c ≤ h.2 ∧ e = .returned (.tuple #[.int .i64 h.1, .int .i64 0]) ∧ RStep r u n us h.1 c true w w') ∨
  ((∀ a ∈ hs, a.2 < c) ∧ e = .returned (.tuple #[.int .i64 0, .int .i64 42]) ∧ Below w.heap.size w w')
set_option maxHeartbeats 1000000 in
theorem ralloc_any (r u : Nat) (n c : Int) (us : List Bool) (hs : List (Int × Int)) (w : World) (h : Rf w r u n us) (hok : okFrom 0 n hs) (hag : Agree hs us n) (hc : 1 ≤ c) :
    Calls Try.prog 29 #[.pointer (some ⟨r, 0, none⟩), .int .i64 c] w (RAllocPost c r u n us hs w) := by
  have H := hid h
  have Hok := hid hok
  have hul := h.open.2.1
  have hl := h.len
  have hn1 := h.n1
  have hlen : (hs.length : Int) ≤ 4097 := by
    have := hok.len (by have := h.len; omega)
    omega
  have hc' : ¬ c < 1 := by omega
  go_enter Try.func29, Try.ntmps29
  go_wp2_with fail
  refine (rholes_any r u n us hs w H.out hok hag).mono ?_
  rintro e w1 ⟨v, rfl, hown, hb1⟩
  have H1 := hid (H.out.below hb1)
  obtain ⟨a, cap, rfl, hel⟩ := own2_slice hown
  have Hel := hid hel
  clear h hok hag H hown hel
  go_wp2_with fail
  go_loopw [7] (fun i wr => ∃ k : Nat, k ≤ hs.length ∧ i = .int .i64 k ∧ Below w1.heap.size w1 wr ∧ Hid (∀ a ∈ hs.take k, a.2 < c)) (fun i _ => hs.length - (intOf i).toNat)
  case atStart => exact ⟨0, Nat.zero_le _, rfl, Below.refl _ _, hid (by simp)⟩
  case round =>
    obtain ⟨k, hk, rfl, hbel, Hlo⟩ := hrel
    have Hr := hid (H1.out.below hbel)
    by_cases hlt : k < hs.length
    · obtain ⟨g, rfl, hBg, hgl, e0, e1⟩ := Hel.out k hlt
      have e0' := (hbel.cell (p := ⟨g, k * 2, none⟩) hgl).trans e0
      have e1' := (hbel.cell (p := ⟨g, k * 2 + 1, none⟩) hgl).trans e1
      clear e0 e1
      by_cases hfit : c ≤ (hs[k]).2
      · have hm := Hok.out.mem hs[k] (List.getElem_mem _)
        have hsp : hs = hs.take k ++ hs[k] :: hs.drop (k + 1) := by rw [← drop_at hs k hlt, List.take_append_drop]
        have Hsp := hid hsp
        obtain ⟨y, hy⟩ : ∃ y, y = hs[k] := ⟨_, rfl⟩
        rw [← hy] at e0' e1' hfit hm
        have Hy := hid hy
        clear hsp hy
        obtain ⟨y1, y2⟩ := y
        simp only at e0' e1' hfit hm
        obtain ⟨F, rfl⟩ := Int.eq_ofNat_of_zero_le (show 0 ≤ y1 by omega)
        obtain ⟨C, rfl⟩ := Int.eq_ofNat_of_zero_le (show 0 ≤ c by omega)
        have hFC : F + C ≤ us.length := by omega
        go_wp2_with fail
        refine (rmark_any r u n F C true us wr Hr.out hFC).mono ?_
        rintro e w3 ⟨x, us', rfl, hr3, hu3, hx3⟩
        have q0 := (hu3.cell (p := ⟨g, k * 2, none⟩) (Nat.lt_of_lt_of_le hgl hbel.size) (by simp only; omega)).trans e0'
        have H3 := hid hr3
        have Hx3 := hid hx3
        have Hu3 := hid hu3
        clear hr3 hx3 hu3 e0' e1'
        go_wp2_with fail
        go_ret2
        refine .inl ⟨hs.take k, ((F : Int), y2), hs.drop (k + 1), by rw [Hy.out]; exact Hsp.out, Hlo.out, hfit, rfl, us', H3.out, (Upd.of_new (hb1.trans (hbel.mono hb1.size))).trans Hu3.out (fun i _ hi => hi), Hx3.out⟩
      · have Hlo' := hid (show ∀ a ∈ hs.take (k + 1), a.2 < c by
          intro a ha
          rw [take_snoc2 hs k hlt, List.mem_append, List.mem_singleton] at ha
          rcases ha with ha | rfl
          · exact Hlo.out a ha
          · omega)
        generalize (hs[k]).2 = y at *
        go_wp2_with fail
        exact ⟨⟨k + 1, by omega, by go_num, hbel, Hlo'⟩, by simp [intOf]; omega⟩
    · have hkN : k = hs.length := by omega
      subst hkN
      go_wp2_with fail
      go_ret2
      exact .inr ⟨by have := Hlo.out; rwa [List.take_length] at this, rfl, hb1.trans (hbel.mono hb1.size)⟩
end Go.Proofs.Ytedalcocdgmigaa
