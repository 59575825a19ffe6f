/- The document's space (the reference): what its methods answer, over the list that says of each block whether it is used. No statement is proved here. -/
import Derived.Test.YtedalcocdgmigaaExtX
import Derived.Deep.OwnRows
set_option linter.unusedVariables false
set_option linter.unusedSimpArgs false
namespace Go.Proofs.Ytedalcocdgmigaa
open Go.RowKit

/-- The reference at block r: its list at block u. -/
structure Rf (w : World) (r u : Nat) (n : Int) (us : List Bool) : Prop where
  hr : w.heap[r]? = some (.cells #[.slice (some ⟨u, 0, none⟩) us.length us.length] 60 (0, 0))
  hu : w.heap[u]? = some (.cells (us.map Value.bool).toArray 4 (0, 0))
  ne : r ≠ u
  len : (us.length : Int) = n
  n1 : n ≤ 4096

theorem Rf.open {w : World} {r u : Nat} {n : Int} {us : List Bool} (h : Rf w r u n us) : r < w.heap.size ∧ u < w.heap.size ∧ w.cell? ⟨r, 0, none⟩ = some (.slice (some ⟨u, 0, none⟩) us.length us.length) ∧
    (∀ i (hi : i < us.length), w.cell? ⟨u, i, none⟩ = some (.bool us[i])) ∧ ∀ i, w.frozen? ⟨u, i, none⟩ = false := by
  refine ⟨blk_lt h.hr, blk_lt h.hu, by rw [blk_cell h.hr]; rfl, fun i hi => by rw [blk_cell h.hu]; simp [hi], fun i => blk_free h.hu i⟩
theorem Rf.kept {w w' : World} {r u : Nat} {n : Int} {us : List Bool} (h : Rf w r u n us) (h1 : w'.heap[r]? = w.heap[r]?) (h2 : w'.heap[u]? = w.heap[u]?) : Rf w' r u n us :=
  ⟨h1.trans h.hr, h2.trans h.hu, h.ne, h.len, h.n1⟩
theorem Rf.below {w w' : World} {r u : Nat} {n : Int} {us : List Bool} (h : Rf w r u n us) (hb : Below w.heap.size w w') : Rf w' r u n us :=
  h.kept (hb.block r h.open.1) (hb.block u h.open.2.1)
/-- A block's word is changed. -/
theorem Rf.set {w : World} {r u : Nat} {n : Int} {us : List Bool} (h : Rf w r u n us) (i : Nat) (v : Bool) : Rf (w.setCell ⟨u, i, none⟩ (.bool v)) r u n (us.set i v) := by
  refine ⟨?_, ?_, h.ne, by rw [List.length_set]; exact h.len, h.n1⟩
  · rw [List.length_set]
    exact (((Upd.refl (fun k => k = u) w).setCell (p := ⟨u, i, none⟩) (fun _ => rfl) (.bool v)).block r h.open.1 h.ne).trans h.hr
  · rw [heap_setCell_same w u _ _ _ _ h.hu]
    simp [List.map_set]

/-- Is block x used? -/
def usedAt (us : List Bool) (x : Int) : Bool := us.getD x.toNat false
theorem usedAt_get {us : List Bool} {k : Nat} (h : k < us.length) : usedAt us (k : Int) = us[k] := by
  simp [usedAt, List.getD_eq_getElem?_getD, h]
theorem usedAt_set (us : List Bool) (k : Nat) (v : Bool) (h : k < us.length) (x : Int) (hx : 0 ≤ x) : usedAt (us.set k v) x = if x = k then v else usedAt us x := by
  unfold usedAt
  rw [List.getD_eq_getElem?_getD, List.getD_eq_getElem?_getD, List.getElem?_set]
  by_cases hk : x = k
  · subst hk; simp [h]
  · have : ¬ k = x.toNat := by omega
    simp [hk, this]

set_option maxHeartbeats 400000 in
theorem rnew_bad (n : Int) (w : World) (h : n < 0 ∨ 4096 < n) :
    Calls Try.prog 20 #[.int .i64 n] w fun e w' => e = .returned (.tuple #[.pointer none, .int .i64 40]) ∧ w = w' := by
  rcases h with h | h
  · go_enter Try.func20, Try.ntmps20
    go_wp2
    go_ret2
    exact ⟨rfl, rfl⟩
  · have h' : ¬ n < 0 := by omega
    go_enter Try.func20, Try.ntmps20
    go_wp2
    go_ret2
    exact ⟨rfl, rfl⟩

theorem infoBool : (Try.prog.info? 4).map (fun i => (i.zero, i.size, i.bytes)) = some (some (.bool false), 1, 1) := by kernel_rfl
theorem made_bools (n : Nat) : madeCells #[Value.bool false] n = ((List.replicate (n : Int).toNat false).map Value.bool).toArray := by
  apply Array.ext
  · simp [madeCells]
  · intro i h1 h2
    simp [madeCells, Nat.mod_one]
def RNewPost (n : Int) (w : World) (e : Ending) (w' : World) : Prop := ∃ r u, e = .returned (.tuple #[.pointer (some ⟨r, 0, none⟩), .int .i64 0]) ∧ Rf w' r u n (List.replicate n.toNat false) ∧ w.heap.size ≤ r ∧ w.heap.size ≤ u ∧ Below w.heap.size w w'
set_option maxHeartbeats 400000 in
theorem rnew_good (n : Int) (w : World) (h0 : 0 ≤ n) (h1 : n ≤ 4096) :
    Calls Try.prog 20 #[.int .i64 n] w (RNewPost n w) := by
  obtain ⟨N, rfl⟩ := Int.eq_ofNat_of_zero_le h0
  have hmk := run_make_row' (P := Try.prog) 58 4 (.bool false) 1 Try.underlying58 infoBool rfl .i64 .i64 N (by omega) (by omega)
  go_enter Try.func20, Try.ntmps20
  go_wp2
  go_ret2
  refine ⟨w.heap.size + 1, w.heap.size, rfl, ⟨?_, ?_, by omega, by simp, h1⟩, by omega, Nat.le_refl _, ((Below.refl _ _).alloc (Nat.le_refl _) _).alloc (by simp) _⟩
  · simp only [List.length_replicate, Int.toNat_natCast]
    exact heap_alloc2_new w _ _
  · rw [heap_alloc2_old, made_bools]

set_option maxHeartbeats 400000 in
theorem rinside_any (r u : Nat) (n f c : Int) (us : List Bool) (w : World) (h : Rf w r u n us) (hf : -9223372036854775808 ≤ f) (hc : -9223372036854775808 ≤ c) (hf1 : f ≤ 9223372036854775807) (hc1 : c ≤ 9223372036854775807) :
    Calls Try.prog 41 #[.pointer (some ⟨r, 0, none⟩), .int .i64 f, .int .i64 c] w fun e w' => e = .returned (.bool (insideB n f c)) ∧ Below w.heap.size w w' := by
  obtain ⟨hrl, hul, c0, cu, fu⟩ := h.open
  have hl := h.len
  have hn1 := h.n1
  have hlN : (us.length : Int) ≤ 4096 := by omega
  subst hl
  by_cases h1 : 1 ≤ c
  · by_cases h2 : 0 ≤ f
    · by_cases h3 : f < us.length
      · go_enter Try.func41, Try.ntmps41
        go_wp2
        go_ret
        exact ⟨by simp [insideB, h1, h2, h3] <;> omega, Below.refl _ _⟩
      · go_enter Try.func41, Try.ntmps41
        go_wp2
        go_ret
        exact ⟨by simp [insideB, h1, h2, h3] <;> omega, Below.refl _ _⟩
    · go_enter Try.func41, Try.ntmps41
      go_wp2
      go_ret
      exact ⟨by simp [insideB, h1, h2] <;> omega, Below.refl _ _⟩
  · go_enter Try.func41, Try.ntmps41
    go_wp2
    go_ret
    exact ⟨by simp [insideB, h1] <;> omega, Below.refl _ _⟩

set_option maxHeartbeats 400000 in
theorem rleft_any (r u : Nat) (n : Int) (us : List Bool) (hs : List (Int × Int)) (w : World) (h : Rf w r u n us) (hok : okFrom 0 n hs) (hfr : ∀ x, 0 ≤ x → x < n → freeB hs x = !usedAt us x) :
    Calls Try.prog 32 #[.pointer (some ⟨r, 0, none⟩)] w fun e w' => e = .returned (.int .i64 (leftOf hs)) ∧ Below w.heap.size w w' := by
  obtain ⟨hrl, hul, c0, cu, fu⟩ := h.open
  have hl := h.len
  have hn1 := h.n1
  have hlN : (us.length : Int) ≤ 4096 := by omega
  have hres : leftOf hs = cntB (freeB hs) us.length := leftOf_cnt (by omega) hok us.length (by omega)
  have hcb : ∀ k : Nat, 0 ≤ cntB (freeB hs) k ∧ cntB (freeB hs) k ≤ k := by
    intro k
    induction k with
    | zero => simp [cntB]
    | succ k ih => simp only [cntB]; split <;> omega
  have Hres := hid hres
  have Hcb := hid hcb
  have Hfr := hid hfr
  have Hcu := hid cu
  clear hres hcb hfr cu h hok
  go_enter Try.func32, Try.ntmps32
  go_wp2
  go_loopw [3, 4] (fun s i wr => ∃ k : Nat, k ≤ us.length ∧ i = .int .i64 k ∧ s = .int .i64 (cntB (freeB hs) k) ∧ Below w.heap.size w wr) (fun _ i _ => us.length - (intOf i).toNat)
  case atStart => exact ⟨0, Nat.zero_le _, rfl, rfl, Below.refl _ _⟩
  case round =>
    obtain ⟨k, hk, rfl, rfl, hbel⟩ := hrel
    have c0' := (hbel.cell (p := ⟨r, 0, none⟩) hrl).trans c0
    by_cases hlt : k < us.length
    · have cu' := (hbel.cell (p := ⟨u, k, none⟩) hul).trans (Hcu.out k hlt)
      have hfk : freeB hs k = !us[k] := by rw [Hfr.out k (by omega) (by omega), usedAt_get hlt]
      have hcn : cntB (freeB hs) (k + 1) = cntB (freeB hs) k + if (!us[k]) = true then 1 else 0 := by rw [← hfk]; rfl
      obtain ⟨hb0, hb1⟩ := Hcb.out k
      generalize us[k] = bk at *
      cases bk
      · have Hcn := hid (show cntB (freeB hs) (k + 1) = cntB (freeB hs) k + 1 by simpa using hcn)
        clear hcn hfk
        go_wp2
        go_round
        case rel => exact ⟨k + 1, by omega, by go_num, by rw [Hcn.out], hbel⟩
        case measure => simp [intOf]; omega
      · have Hcn := hid (show cntB (freeB hs) (k + 1) = cntB (freeB hs) k by simpa using hcn)
        clear hcn hfk
        go_wp2
        go_round
        case rel => exact ⟨k + 1, by omega, by go_num, by rw [Hcn.out], hbel⟩
        case measure => simp [intOf]; omega
    · have hkN : k = us.length := by omega
      subst hkN
      go_wp2
      go_ret
      exact ⟨by rw [Hres.out]; rfl, hbel⟩

def AllPost (F C : Nat) (v : Bool) (us : List Bool) (w : World) (e : Ending) (w' : World) : Prop :=
  ∃ b, e = .returned (.bool b) ∧ Below w.heap.size w w' ∧ (b = true → ∀ x, (F : Int) ≤ x → x < (F : Int) + C → usedAt us x = v) ∧ (b = false → ∃ x, (F : Int) ≤ x ∧ x < (F : Int) + C ∧ usedAt us x = !v)
set_option maxHeartbeats 400000 in
theorem rall_any (r u : Nat) (n : Int) (F C : Nat) (v : Bool) (us : List Bool) (w : World) (h : Rf w r u n us) (hFC : F + C ≤ us.length) :
    Calls Try.prog 42 #[.pointer (some ⟨r, 0, none⟩), .int .i64 F, .int .i64 C, .bool v] w (AllPost F C v us w) := by
  obtain ⟨hrl, hul, c0, cu, fu⟩ := h.open
  have hl := h.len
  have hn1 := h.n1
  have hlN : (us.length : Int) ≤ 4096 := by omega
  have Hcu := hid cu
  have hFC' : (F : Int) + C ≤ 4096 := by omega
  clear cu h
  go_enter Try.func42, Try.ntmps42
  go_wp2
  go_loopw [9] (fun i wr => ∃ k : Nat, F ≤ k ∧ k ≤ F + C ∧ i = .int .i64 k ∧ Below w.heap.size w wr ∧ Hid (∀ x, (F : Int) ≤ x → x < (k : Int) → usedAt us x = v)) (fun i _ => F + C - (intOf i).toNat)
  case atStart => exact ⟨F, Nat.le_refl _, by omega, rfl, Below.refl _ _, hid (fun x h1 h2 => by omega)⟩
  case round =>
    obtain ⟨k, hk0, hk, rfl, hbel, Hx⟩ := hrel
    have c0' := (hbel.cell (p := ⟨r, 0, none⟩) hrl).trans c0
    by_cases hlt : k < F + C
    · have cu' := (hbel.cell (p := ⟨u, k, none⟩) hul).trans (Hcu.out k (by omega))
      have hlt' : (k : Int) < (F : Int) + C := by omega
      have hkl : k < us.length := by omega
      have hua := hid (usedAt_get (us := us) (k := k) (by omega))
      generalize us[k] = bk at *
      by_cases hb : bk = v
      · subst hb
        go_wp2
        go_round
        case rel => exact ⟨k + 1, by omega, by omega, by go_num, hbel, hid (fun x h1 h2 => by
          by_cases hx : x = k
          · rw [hx, hua.out]
          · exact Hx.out x h1 (by omega))⟩
        case measure => simp [intOf]; omega
      · have hb' : bk = !v := by cases bk <;> cases v <;> simp_all
        subst hb'
        cases v
        all_goals go_wp2
        all_goals go_ret
        all_goals exact ⟨false, rfl, hbel, fun h => (by cases h), fun _ => ⟨k, by omega, by omega, hua.out⟩⟩
    · have hkN : k = F + C := by omega
      subst hkN
      go_wp2
      go_ret
      exact ⟨true, rfl, hbel, fun _ x h1 h2 => Hx.out x h1 (by omega), fun h => by cases h⟩

def MarkPost (F C : Nat) (v : Bool) (r u : Nat) (n : Int) (us : List Bool) (w : World) (e : Ending) (w' : World) : Prop :=
  ∃ x us', e = .returned x ∧ Rf w' r u n us' ∧ Upd (fun k => k = u) w w' ∧ ∀ x, 0 ≤ x → usedAt us' x = if (F : Int) ≤ x ∧ x < (F : Int) + C then v else usedAt us x
set_option maxHeartbeats 400000 in
theorem rmark_any (r u : Nat) (n : Int) (F C : Nat) (v : Bool) (us : List Bool) (w : World) (h : Rf w r u n us) (hFC : F + C ≤ us.length) :
    Calls Try.prog 40 #[.pointer (some ⟨r, 0, none⟩), .int .i64 F, .int .i64 C, .bool v] w (MarkPost F C v r u n us w) := by
  have hl := h.len
  have hn1 := h.n1
  have hlN : (us.length : Int) ≤ 4096 := by omega
  have hFC' : (F : Int) + C ≤ 4096 := by omega
  obtain ⟨L, hL⟩ : ∃ L, L = us.length := ⟨_, rfl⟩
  have H := hid h
  clear h
  go_enter Try.func40, Try.ntmps40
  go_wp2
  go_loopw [8] (fun i wr => ∃ (k : Nat) (us' : List Bool), F ≤ k ∧ k ≤ F + C ∧ i = .int .i64 k ∧ Hid (Rf wr r u n us') ∧ Hid (us'.length = us.length) ∧ Upd (fun k => k = u) w wr ∧ Hid (∀ x, 0 ≤ x → usedAt us' x = if (F : Int) ≤ x ∧ x < (k : Int) then v else usedAt us x)) (fun i _ => F + C - (intOf i).toNat)
  case atStart => exact ⟨F, us, Nat.le_refl _, by omega, rfl, H, hid rfl, Upd.refl _ _, hid (fun x h1 => by rw [if_neg (by omega)])⟩
  case round =>
    obtain ⟨k, us', hk0, hk, rfl, Hr, Hl, hu, Hx⟩ := hrel
    obtain ⟨hrl, hul, c0, cu, fu⟩ := Hr.out.open
    have fk := fu k
    by_cases hlt : k < F + C
    · have hlen := Hl.out
      have ck := cu k (by omega)
      have hkl : (k : Int) < (us'.length : Int) := by omega
      have hkl' : k < us'.length := by omega
      have hlt' : (k : Int) < (F : Int) + C := by omega
      have Hset := hid (Hr.out.set k v)
      have hus := hid (hu.setCell (p := ⟨u, k, none⟩) (fun _ => rfl) (.bool v))
      clear cu fu
      go_wp2
      exact ⟨⟨k + 1, us'.set k v, by omega, by omega, by go_num, Hset, hid (by rw [List.length_set]; exact Hl.out), hus.out, hid (fun x hx => by
        rw [usedAt_set us' k v hkl' x hx, Hx.out x hx]
        by_cases h1 : x = k
        · rw [if_pos h1, if_pos (by omega)]
        · rw [if_neg h1]
          by_cases h2 : (F : Int) ≤ x ∧ x < k
          · rw [if_pos h2, if_pos (by omega)]
          · rw [if_neg h2, if_neg (by omega)])⟩, by simp [intOf]; omega⟩
    · have hkN : k = F + C := by omega
      subst hkN
      clear cu fu
      go_wp2
      exact bodyPost_end (v := .tuple #[]) (by simp [results, Try.results40, go_sem]) rfl ⟨_, us', rfl, Hr.out, hu, fun x hx => by rw [Hx.out x hx]; simp⟩
end Go.Proofs.Ytedalcocdgmigaa
