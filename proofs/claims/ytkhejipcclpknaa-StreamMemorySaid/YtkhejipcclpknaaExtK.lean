/- The space's Free. No statement is proved here. -/
import Derived.Test.YtkhejipcclpknaaExtF
import Derived.Deep.RegionWith
set_option linter.unusedVariables false
set_option linter.unusedSimpArgs false
namespace Go.Proofs.Ytkhejipcclpknaa
open Go.RowKit

/-- Delete of one element. -/
theorem delete_any (w : World) (g cap : Nat) (cur : Array Value) (hs : List (Int × Int)) (i k : Nat) (hn : hs.length = i + 1 + k)
    (hg : w.heap[g]? = some (.cells cur 83 (0, 0))) (hnc : hs.length ≤ cap) (hcm : cap ≤ maxLen) (hcs : cur.size = cap * 2) (htk : cur.toList.take (hs.length * 2) = cells2 hs) :
    Calls Try.prog 57 #[.slice (some ⟨g, 0, none⟩) (i + 1 + k) cap, .int .i64 i, .int .i64 ((i : Int) + 1)] w (Owned w g (hs.take i ++ hs.drop (i + 1))) := by
  by_cases hk : k = 0
  · subst hk
    rw [List.drop_of_length_le (by omega), List.append_nil]
    exact delete_last w g cap cur hs i (by omega) hg hnc hcm hcs htk
  · exact delete_in w g cap cur hs i k hn hg hnc hcm hcs htk (by omega)

/-- What Insert leaves. -/
def InsPost (w : World) (ob : Option Nat) (hs : List (Int × Int)) (e : Ending) (w' : World) : Prop :=
  ∃ g' cap' cur', e = .returned (.slice (some ⟨g', 0, none⟩) hs.length cap') ∧ (ob = some g' ∨ w.heap.size ≤ g') ∧ w'.heap[g']? = some (.cells cur' 83 (0, 0)) ∧
    hs.length ≤ cap' ∧ cap' ≤ maxLen ∧ cur'.size = cap' * 2 ∧ cur'.toList.take (hs.length * 2) = cells2 hs ∧ Upd (fun k => ob = some k) w w'

/-- Insert of one element, whatever the slice and the place. -/
theorem insert_any (w : World) (v : Value) (r rc : Nat) (rcur : Array Value) (A B ys : List (Int × Int)) (hown : w.ownsRow 0 83 2 v (A ++ B).length (cells2 (A ++ B)))
    (hr : w.heap[r]? = some (.cells rcur 83 (0, 0))) (hry : rcur.toList.take (ys.length * 2) = cells2 ys) (hy : ys.length = 1) (hsm : (A ++ B).length ≤ 10000) (hrg : v.ownBlock ≠ some r) :
    Calls Try.prog 58 #[v, .int .i64 A.length, .slice (some ⟨r, 0, none⟩) 1 rc] w (InsPost w v.ownBlock (A ++ ys ++ B)) := by
  by_cases hB : B = []
  · subst hB
    simp only [List.append_nil] at hown hsm ⊢
    refine (insert_end w v r rc rcur A ys hown hr hry hy hsm).mono ?_
    rintro e w' ⟨v', rfl, ho, hgr, hnew⟩
    rcases ho.2 with ⟨_, h0⟩ | ⟨g', cap', cur', rfl, _, hg, h1, h2, h3, h4⟩
    · exact absurd h0 (by simp [hy])
    · exact ⟨g', cap', cur', rfl, hnew g' rfl, hg, h1, h2, h3, h4, Upd.of_grown hgr⟩
  · have hpos : 0 < B.length := List.length_pos_iff.2 hB
    rcases hown.2 with ⟨_, h0⟩ | ⟨g, cap, cur, rfl, _, hg, h1, h2, h3, h4⟩
    · exact absurd h0 (by simp; intro _ hb; exact hB hb)
    · have hl : (A ++ B).length = A.length + B.length := by simp
      have hq := insert_in w g cap r rc cur rcur (A ++ B) ys A.length B.length hl hg h1 h2 h3 h4 (fun e => hrg (by rw [e]; rfl)) hr hry hy hpos hsm
      rw [List.take_left, List.drop_left] at hq
      rw [hl]
      refine hq.mono ?_
      rintro e w' ⟨g', cap', cur', rfl, hgg, hg', k1, k2, k3, k4, hu⟩
      refine ⟨g', cap', cur', rfl, ?_, hg', k1, k2, k3, k4, hu.mono fun k _ hk => by rw [hk]; rfl⟩
      rcases hgg with rfl | h
      · exact .inl rfl
      · exact .inr h

theorem addF_left {A0 B : List (Int × Int)} {l : Int × Int} {f c : Int} (h : l.1 + l.2 = f) : addF (A0 ++ [l]) B (f, c) = A0 ++ (l.1, l.2 + (mergE B (f, c)).2) :: mergB B (f, c) := by
  simp [addF, h]
theorem addF_none {A B : List (Int × Int)} {f c : Int} (h : ∀ A0 l, A = A0 ++ [l] → l.1 + l.2 ≠ f) : addF A B (f, c) = A ++ mergE B (f, c) :: mergB B (f, c) := by
  rcases List.eq_nil_or_concat A with rfl | ⟨A0, l, rfl⟩
  · rfl
  · have := h A0 l (by simp)
    simp [addF, this]

theorem cells2_set (A B : List (Int × Int)) (l : Int × Int) (x : Int) : cells2 (A ++ (l.1, x) :: B) = (cells2 (A ++ l :: B)).set (A.length * 2 + 1) (.int .i64 x) := by
  rw [cells2_append, cells2_append, List.set_append_right _ _ (by rw [cells2_length]; omega), cells2_length]
  simp [cells2, show A.length * 2 + 1 - A.length * 2 = 1 by omega]

theorem sp_unfrozen {w : World} {p g : Nat} {n : Int} {hs : List (Int × Int)} (h : Sp w p (some g) n hs) (i : Nat) : w.frozen? ⟨g, i, none⟩ = false := by
  obtain ⟨v, hv, hp, own⟩ := h.ex
  rcases own.2 with ⟨rfl, h0⟩ | ⟨g0, cap, cur, rfl, _, hg, _⟩
  · simp [Value.ownBlock] at hv
  · have hgg : g0 = g := by simpa [Value.ownBlock] using hv
    subst hgg
    exact blk_free hg i

/-- A hole's count is set. -/
theorem sp_setcount {w : World} {p g : Nat} {n x : Int} {A B : List (Int × Int)} {l : Int × Int} (h : Sp w p (some g) n (A ++ l :: B)) (hok : okFrom 0 n (A ++ (l.1, x) :: B)) :
    Sp (w.setCell ⟨g, A.length * 2 + 1, none⟩ (.int .i64 x)) p (some g) n (A ++ (l.1, x) :: B) := by
  obtain ⟨v, hv, hp, own⟩ := h.ex
  have hne : p ≠ g := fun e => h.ne (by rw [e])
  rcases own.2 with ⟨rfl, h0⟩ | ⟨g0, cap, cur, rfl, _, hg, h1, h2, h3, h4⟩
  · simp at h0
  · have hgg : g0 = g := by simpa [Value.ownBlock] using hv
    subst hgg
    have hl : (A ++ (l.1, x) :: B).length = (A ++ l :: B).length := by simp
    refine ⟨⟨_, rfl, (heap_setCell_other w ⟨g0, A.length * 2 + 1, none⟩ p _ hne).trans hp, ?_⟩, h.ne, h.n0, h.n1, hok⟩
    refine ⟨by rw [cells2_length], .inr ⟨g0, cap, cur.setIfInBounds (A.length * 2 + 1) (.int .i64 x), by rw [hl], Nat.zero_le _, heap_setCell_same w g0 _ _ _ _ hg, by rw [hl]; exact h1, h2, by simpa using h3, ?_⟩⟩
    rw [Array.toList_setIfInBounds, List.take_set, hl, h4]
    exact (cells2_set A B l x).symm

theorem ins_end {w W w7 : World} {p g' cap' : Nat} {o : Option Nat} {n : Int} {v : Value} {hs' : List (Int × Int)} {cur' : Array Value} (hpb : w.heap[p]? = some (.cells #[.int .i64 n, v] 81 (0, 0))) (hpo : o ≠ some p)
    (how : ∀ k, o = some k → k < w.heap.size) (hb : Below w.heap.size w W) (hg' : o = some g' ∨ W.heap.size ≤ g') (hrow : w7.heap[g']? = some (.cells cur' 83 (0, 0))) (hnc : hs'.length ≤ cap') (hcm : cap' ≤ maxLen) (hcs : cur'.size = cap' * 2) (htk : cur'.toList.take (hs'.length * 2) = cells2 hs')
    (hu : Upd (fun k => o = some k) W w7) (h0 : 0 ≤ n) (h1 : n ≤ 4096) (hok : okFrom 0 n hs') :
    w7.cell? ⟨p, 1, none⟩ = some v ∧ w7.frozen? ⟨p, 1, none⟩ = false ∧
      Sp (w7.setCell ⟨p, 1, none⟩ (.slice (some ⟨g', 0, none⟩) hs'.length cap')) p (some g') n hs' ∧ SpStep w (w7.setCell ⟨p, 1, none⟩ (.slice (some ⟨g', 0, none⟩) hs'.length cap')) p o (some g') := by
  have hpl := blk_lt hpb
  have hp3 : w7.heap[p]? = some (.cells #[.int .i64 n, v] 81 (0, 0)) := (hu.block p (Nat.lt_of_lt_of_le hpl hb.size) hpo).trans ((hb.block p hpl).trans hpb)
  refine ⟨by simpa using blk_cell hp3 1, blk_free hp3 1, sp_store hp3 hrow ?_ hnc hcm hcs htk h0 h1 hok, ?_, ?_⟩
  · have := hb.size
    rcases hg' with h | h
    · intro e; exact hpo (by rw [h, e])
    · omega
  · refine Upd.setCell ?_ (fun _ => .inl rfl) _
    exact ⟨hu.os.trans hb.os, hu.tape.trans hb.tape, hu.output.trans hb.output, Nat.le_trans hb.size hu.size, fun k hk hs =>
      (hu.block k (Nat.lt_of_lt_of_le hk hb.size) (fun e => hs (.inr e))).trans (hb.block k hk)⟩
  · intro k hk
    simp at hk
    subst hk
    rcases hg' with h | h
    · exact .inl h
    · exact .inr (Nat.le_trans hb.size h)

/-- What Free does. -/
def FreePost (w : World) (p : Nat) (o : Option Nat) (n : Int) (hs : List (Int × Int)) (f c : Int) (e : Ending) (w' : World) : Prop :=
  (insideB n f c = false ∧ e = .returned (.int .i64 43) ∧ Below w.heap.size w w') ∨
  (insideB n f c = true ∧ (∃ x, f ≤ x ∧ x < f + c ∧ freeB hs x = true) ∧ e = .returned (.int .i64 44) ∧ Below w.heap.size w w') ∨
  (insideB n f c = true ∧ (∀ x, f ≤ x → x < f + c → freeB hs x = false) ∧ ∃ hs', okFrom 0 n hs' ∧ (∀ x, freeB hs' x = (freeB hs x || (decide (f ≤ x) && decide (x < f + c)))) ∧ SpPost w p o n hs' (.int .i64 0) e w')

set_option maxHeartbeats 2000000 in
set_option maxRecDepth 100000 in
theorem free_any (p : Nat) (o : Option Nat) (n f c : Int) (hs : List (Int × Int)) (w : World) (h : Sp w p o n hs) :
    Calls Try.prog 39 #[.pointer (some ⟨p, 0, none⟩), .agg #[.int .i64 f, .int .i64 c]] w (FreePost w p o n hs f c) := by
  have hn0 := h.n0
  have hn1 := h.n1
  have hp := h.lt.1
  have hpo := h.lt.2
  have hok := h.ok
  have hnl := h.hn
  have hne := h.ne
  obtain ⟨a0, cap0, c00, _⟩ := h.open
  have HI : ∀ (W : World), Below w.heap.size w W → Calls Try.prog 55 #[.pointer (some ⟨p, 0, none⟩), .agg #[.int .i64 f, .int .i64 c]] W fun e w' => e = .returned (.bool (insideB n f c)) ∧ Below W.heap.size W w' := fun W hb =>
    inside_any p n f c W hn0 hn1 (Nat.lt_of_lt_of_le hp hb.size) ((hb.cell (p := ⟨p, 0, none⟩) hp).trans c00)
  have HA : ∀ (W : World), Below w.heap.size w W → Calls Try.prog 56 #[.pointer (some ⟨p, 0, none⟩), .int .i64 f] W (AfterPost hs f W) := fun W hb => after_any p o n f hs W (h.below hb)
  have Hi := hid HI
  have Ha := hid HA
  have Hok := hid hok
  have Hpo := hid hpo
  have Hne := hid hne
  clear HI HA c00 hok hpo hne
  have hb1 : Below w.heap.size w (w.alloc (.cells #[.int .i64 f, .int .i64 c] 83)) := (Below.refl _ _).alloc (Nat.le_refl _) _
  go_enter Try.func39, Try.ntmps39
  go_wp2_with fail
  refine (Hi.out _ hb1).mono ?_
  rintro e w1 ⟨rfl, hb2⟩
  cases hin : insideB n f c with
  | false =>
    have Hin := hid hin
    clear hin
    have hb : Below w.heap.size w w1 := hb1.trans (hb2.mono (by simp))
    go_wp2_with fail
    go_ret
    exact .inl ⟨Hin.out, rfl, hb⟩
  | true =>
    have hif := insideB_true hin
    have Hin := hid hin
    clear hin
    have hb : Below w.heap.size w w1 := hb1.trans (hb2.mono (by simp))
    have hbx : w1.heap[w.heap.size]? = some (.cells #[.int .i64 f, .int .i64 c] 83 (0, 0)) := (hb2.block _ (by simp)).trans (heap_alloc_new w _)
    have b0 := blk_cell hbx 0
    have b1 := blk_cell hbx 1
    simp at b0 b1
    clear hb1 hb2
    go_wp2_with fail
    refine (Ha.out _ hb).mono ?_
    rintro e w2 ⟨hb3, A, B, rfl, rfl, hA, hB⟩
    have hb' : Below w.heap.size w w2 := hb.trans (hb3.mono hb.size)
    have hbx2 : w2.heap[w.heap.size]? = some (.cells #[.int .i64 f, .int .i64 c] 83 (0, 0)) := (hb3.block _ (blk_lt hbx)).trans hbx
    have d0 := blk_cell hbx2 0
    have d1 := blk_cell hbx2 1
    have df1 := blk_free hbx2 1
    simp at d0 d1
    clear b0 b1 hb3 hb hbx
    obtain ⟨i, hi⟩ : ∃ i, i = A.length := ⟨_, rfl⟩
    have hs2 := h.below hb'
    have hlen : i + B.length ≤ 2049 := by have := hs2.hn; simp at this; omega
    rw [← hi]
    have Hi2 := hid hi
    have HB := hid hB
    have Hx2 := hid hbx2
    have w2' : wrap64 (f + c) = f + c := by unfold wrap64; omega
    clear hB hbx2
    cases hBc : B
    case' nil =>
      subst hBc
      obtain ⟨a, cap, c0, c1, f1, _⟩ := hs2.open
      rw [List.append_nil, ← hi] at c1
      obtain ⟨w5, hw5⟩ : ∃ w5, w5 = w2 := ⟨_, rfl⟩
      obtain ⟨o5, ho5⟩ : ∃ o5, o5 = o := ⟨_, rfl⟩
      obtain ⟨c', hc'⟩ : ∃ c', c' = c := ⟨_, rfl⟩
      obtain ⟨B', hB'⟩ : ∃ B' : List (Int × Int), B' = [] := ⟨_, rfl⟩
      have Hu : Hid (∀ x, f ≤ x → x < f + c → freeB (A ++ []) x = false) := hid (by rw [List.append_nil]; exact fun x hx _ => none_free (e := (f, c)) hA x hx)
      have Hbb : Hid (∀ x ∈ ([] : List (Int × Int)), f + c ≤ x.1) := hid (by simp)
      have Hmg : Hid (mergE [] (f, c) = (f, c') ∧ mergB [] (f, c) = B') := hid ⟨by rw [hc']; rfl, by rw [hB']; rfl⟩
      have hsp5 : Sp w5 p o5 n (A ++ B') := by rw [hw5, ho5, hB']; exact hs2
      have hst5 : SpStep w w5 p o o5 := by rw [hw5, ho5]; exact SpStep.of_below hb'
      have Hx5 : Hid (w5.heap[w.heap.size]? = some (.cells #[.int .i64 f, .int .i64 c'] 83 (0, 0))) := hid (by rw [hw5, hc']; exact Hx2.out)
      have hc1 : c ≤ c' ∧ f + c' ≤ n := by omega
      clear hi hs2
      go_wp2_with fail
      rw [← hw5]
      clear hw5 ho5 hc' hB' c1 c0 f1 d0 d1 df1 hb' Hx2
      generalize ([] : List (Int × Int)) = B at *
    case' cons hh r =>
      have hs2c := hs2
      rw [hBc] at hs2
      obtain ⟨g, cap, ho, c1, e0, e1, hgl⟩ := sp_cells hs2
      rw [← hi] at c1 e0 e1
      clear hi
      have hlt := HB.out hh r hBc
      have hm := Hok.out.mem hh (by rw [hBc]; simp)
      have hall := all_used (e := (f, c)) (by rw [← hBc]; exact Hok.out) hA hlt hif.1
      rw [← hBc] at hall
      obtain ⟨hf, hc⟩ := hh
      simp only at c1 e0 e1 hlt hm hall
      obtain ⟨m, hmm⟩ : ∃ m, m = r.length := ⟨_, rfl⟩
      rw [← hmm] at c1
      have him : (i : Int) + 1 + (m : Int) ≤ 2049 := by rw [hBc] at hlen; simp at hlen; omega
      have g2 : (i : Int) < (i : Int) + 1 + (m : Int) := by omega
      have Hall := hid hall
      have Hmm := hid hmm
      have HBc := hid hBc
      have Ho := hid ho
      clear hall hmm hBc ho hlen
      by_cases q1 : hf < f + c
      case pos =>
        go_wp2_with fail
        go_ret
        refine .inr (.inl ⟨Hin.out, ?_, rfl, hb'⟩)
        refine Classical.byContradiction fun hno => ?_
        have := Hall.out.1 fun x hx1 hx2 => by
          cases hxx : freeB (A ++ B) x with
          | false => rfl
          | true => exact absurd ⟨x, hx1, hx2, hxx⟩ hno
        have t1 : f + c ≤ hf := this
        omega
      case' neg =>
        have Hu : Hid (∀ x, f ≤ x → x < f + c → freeB (A ++ B) x = false) := hid (Hall.out.2 (by omega))
        have Hbb : Hid (∀ x ∈ B, f + c ≤ x.1) := hid (by
          intro x hx
          have hok2 := Hok.out
          rw [HBc.out] at hx hok2
          obtain ⟨_, k1, k2, k3, k4⟩ := okFrom_append.1 hok2
          rcases List.mem_cons.1 hx with rfl | hx
          · omega
          · have := k4.mem x hx; simp only at *; omega)
        by_cases q2 : hf = f + c
        case' pos =>
          have q2' : (hf == f + c) = true := by simpa using q2
          obtain ⟨c', hc'⟩ : ∃ c', c' = c + hc := ⟨_, rfl⟩
          have hc1 : c ≤ c' ∧ f + c' ≤ n := by omega
          have hwc : IntKind.i64.wrap (c + hc) = c + hc := by rw [IntKind.wrap_i64]; omega
          obtain ⟨B', hB'⟩ : ∃ B' : List (Int × Int), B' = r := ⟨_, rfl⟩
          have Hmg : Hid (mergE B (f, c) = (f, c') ∧ mergB B (f, c) = B') := hid (by rw [HBc.out, hc', hB']; simp [mergE, mergB, q2])
          have Q2 := hid q2
          have Hc' := hid hc'
          have HB' := hid hB'
          have Hs2 := hid hs2
          clear q2 hc' hB' hs2 hs2c
          go_wp2_with fail
          go_region
          rw [← Hc'.out]
          have hb3 : Below w.heap.size w ((w2.setCell ⟨w.heap.size, 1, none⟩ (.int .i64 c')).drew) := (hb'.setCell (Nat.le_refl _) _).drew
          have hx3 : ((w2.setCell ⟨w.heap.size, 1, none⟩ (.int .i64 c')).drew).heap[w.heap.size]? = some (.cells #[.int .i64 f, .int .i64 c'] 83 (0, 0)) := heap_setCell_same w2 w.heap.size 1 _ _ _ Hx2.out
          have hpg0 := Hpo.out g Ho.out
          have hs3 : Sp ((w2.setCell ⟨w.heap.size, 1, none⟩ (.int .i64 c')).drew) p o n (A ++ (hf, hc) :: r) :=
            Hs2.out.upd (S := fun k => k = w.heap.size) ((Upd.setCell (S := fun k => k = w.heap.size) (Upd.refl _ w2) (p := ⟨w.heap.size, 1, none⟩) (fun _ => rfl) _).drew) (by omega) (fun k hk => by have := Hpo.out k hk; omega)
          obtain ⟨w3, hw3⟩ : ∃ w3, w3 = (w2.setCell ⟨w.heap.size, 1, none⟩ (.int .i64 c')).drew := ⟨_, rfl⟩
          rw [← hw3] at hb3 hx3 hs3 ⊢
          obtain ⟨v, hv, hpb, ownv⟩ := hs3.ex
          obtain ⟨_, cap3, k1, k2, k3, k4, _⟩ := sp_cells hs3
          rcases ownv.2 with ⟨rfl, h0⟩ | ⟨g0, cap0, cur, rfl, _, hg, hnc, hcm, hcs, htk⟩
          · simp at h0
          have hgg : g0 = g := by have := Ho.out; rw [← hv] at this; simpa [Value.ownBlock] using this
          subst hgg
          have hd := delete_any w3 g0 cap0 cur (A ++ (hf, hc) :: r) i m (by rw [Hi2.out, Hmm.out]; simp; omega) hg hnc hcm hcs htk
          rw [Hi2.out, List.take_left, show A ++ (hf, hc) :: r = (A ++ [(hf, hc)]) ++ r by simp, List.drop_left' (by simp), ← HB'.out, ← Hi2.out] at hd
          have Hd := hid hd
          have c13 : w3.cell? ⟨p, 1, none⟩ = some (.slice (some ⟨g0, 0, none⟩) (i + 1 + m) cap0) := by
            have := blk_cell hpb 1
            rw [this, Hi2.out, Hmm.out]
            simp
            omega
          have Hpb := hid hpb
          have Hs3 := hid hs3
          have hpg : p ≠ g0 := fun e => Hne.out (by rw [Ho.out, e])
          have hokr : okFrom 0 n (A ++ B') := by
            have := Hok.out
            rw [HBc.out] at this
            obtain ⟨q1, q2⟩ := okFrom_append.1 this
            rw [HB'.out]
            exact okFrom_append.2 ⟨q1, q2.2.2.2.mono (by have := q2.1; have := q2.2.1; simp only at *; omega)⟩
          have Hokr := hid hokr
          have Hx3 := hid hx3
          have Hb3 := hid hb3
          have hg3 := blk_lt hg
          clear hd hpb hs3 ownv hnc hcm hcs htk hg hv hw3 c1 e0 e1 d0 d1 df1 hb' Hs2 Hx2 hokr hx3 hb3 k1 k2 k3 k4
          go_wp2_with fail
          refine Hd.out.mono ?_
          rintro e w4 ⟨g', cap', cur', rfl, hg', hrow, hnc, hcm', hcs, htk, hu⟩
          obtain ⟨k1, k2, k3⟩ := cut_end Hpb.out hpg (Below.refl _ _) hg' hg3 hrow hnc hcm' hcs htk hu hn0 hn1 Hokr.out
          obtain ⟨_, o5, hsp5, hst5'⟩ := k3
          obtain ⟨L, hL⟩ : ∃ L, L = (A ++ B').length := ⟨_, rfl⟩
          rw [← hL] at hsp5 hst5' ⊢
          clear hu htk hcs hrow hnc hL
          go_wp2_with fail
          obtain ⟨w5, hw5⟩ : ∃ w5, w5 = w4.setCell ⟨p, 1, none⟩ (.slice (some ⟨g', 0, none⟩) L cap') := ⟨_, rfl⟩
          rw [← hw5] at hsp5 hst5' ⊢
          have hst5 : SpStep w w5 p o o5 := by
            have hq : SpStep w w3 p o o := SpStep.of_below Hb3.out
            rw [← Ho.out] at hst5'
            exact hq.trans hst5'
          have Hx5 : Hid (w5.heap[w.heap.size]? = some (.cells #[.int .i64 f, .int .i64 c'] 83 (0, 0))) := hid ((hst5'.upd.block _ (blk_lt Hx3.out) (by
            rintro (hh | hh)
            · omega
            · have := Hpo.out w.heap.size (by rw [Ho.out]; exact hh); omega)).trans Hx3.out)
          clear hst5' hw5 k1 k2 Hx3 Hb3 Hs3 Hpb Hd Hokr Q2 Hc' HB' HBc Hmm Ho q2' him g2 hlt hm hwc q1 hgl c13
        case' neg =>
          have q2' : (hf == f + c) = false := by simpa using q2
          obtain ⟨c', hc'⟩ : ∃ c', c' = c := ⟨_, rfl⟩
          obtain ⟨B', hB'⟩ : ∃ B', B' = B := ⟨_, rfl⟩
          obtain ⟨w5, hw5⟩ : ∃ w5, w5 = w2 := ⟨_, rfl⟩
          obtain ⟨o5, ho5⟩ : ∃ o5, o5 = o := ⟨_, rfl⟩
          have hc1 : c ≤ c' ∧ f + c' ≤ n := by omega
          have Hmg : Hid (mergE B (f, c) = (f, c') ∧ mergB B (f, c) = B') := hid (by rw [hB', HBc.out, hc']; simp [mergE, mergB, q2])
          have hsp5 : Sp w5 p o5 n (A ++ B') := by rw [hw5, ho5, hB', HBc.out]; exact hs2
          have hst5 : SpStep w w5 p o o5 := by rw [hw5, ho5]; exact SpStep.of_below hb'
          have Hx5 : Hid (w5.heap[w.heap.size]? = some (.cells #[.int .i64 f, .int .i64 c'] 83 (0, 0))) := hid (by rw [hw5, hc']; exact Hx2.out)
          have Hq2 := hid q2
          clear q2 hs2 hs2c hc' hB' ho5
          go_wp2_with fail
          rw [← hw5]
          clear hw5 c1 e0 e1 d0 d1 df1 hb' Hx2 hlt hm him g2 Hmm HBc Ho q1 Hq2 q2' hgl
    all_goals
      have hspec := addF_spec (e := (f, c)) Hok.out hA Hbb.out hif.2.1 hif.1 hif.2.2.2
      have Hspec := hid hspec
      clear hspec
      have hhn5 := hsp5.hn
      obtain ⟨a, cap, c0, c1, f1, hp5, ho5, hob, own5, hel, hcap, hcm⟩ := hsp5.open
      obtain ⟨v5, hv5, hpb5, _⟩ := hsp5.ex
      have hne5 := hsp5.ne
      -- Insert's contract
      have hins : ∀ (j : Int), j = (i : Int) → ∀ (W : World) (b : Nat), Below w5.heap.size w5 W → W.heap[b]? = some (.cells #[.int .i64 f, .int .i64 c'] 83 (0, 0)) → w5.heap.size ≤ b →
          Calls Try.prog 58 #[.slice a (A ++ B').length cap, .int .i64 j, .slice (some ⟨b, 0, none⟩) 1 1] W (InsPost W o5 (A ++ (f, c') :: B')) := by
        intro j hj W b hW hrow hbw
        subst hj
        have hownW : W.ownsRow 0 83 2 (.slice a (A ++ B').length cap) (A ++ B').length (cells2 (A ++ B')) := by
          refine ⟨own5.1, ?_⟩
          rcases own5.2 with hh | ⟨g0, cap0, cur, hv0, k0, hg, rest⟩
          · exact .inl hh
          · exact .inr ⟨g0, cap0, cur, hv0, k0, (hW.block g0 (blk_lt hg)).trans hg, rest⟩
        have q := insert_any W _ b 1 _ A B' [(f, c')] hownW hrow (by rfl) rfl (by omega) (by rw [hob]; intro e; have := ho5 b e; omega)
        rw [hob, ← Hi2.out] at q
        simpa using q
      have Hins := hid hins
      have Hown := hid own5
      have Hel := hid hel
      have Ho5 := hid ho5
      have Hst5 := hid hst5
      have Hsp5 := hid hsp5
      have Hpb5 := hid hpb5
      have Hne5 := hid hne5
      obtain ⟨L, hL⟩ : ∃ L, L = (A ++ B').length := ⟨_, rfl⟩
      have Hcell := hid c1
      have x0 := blk_cell Hx5.out 0
      have x1 := blk_cell Hx5.out 1
      simp at x0 x1
      clear hins own5 hel ho5 hst5 hsp5 hpb5 hne5 hob hv5 hcap hcm
      rw [← hL] at c1 Hins
      have HL := hid hL
      clear hL
      by_cases hlm : ∃ A0 l, A = A0 ++ [l] ∧ l.1 + l.2 = f
      · obtain ⟨A0, l, hAl, hlf⟩ := hlm
        have hab : A ++ B' = A0 ++ l :: B' := by rw [hAl]; simp
        have hsp6 := Hsp5.out
        rw [hab] at hsp6
        obtain ⟨g, cap2, hog, k1, e0, e1, hgl⟩ := sp_cells hsp6
        obtain ⟨j, hj⟩ : ∃ j, j = A0.length := ⟨_, rfl⟩
        have hij : i = j + 1 := by rw [Hi2.out, hAl, hj]; simp
        rw [← hj] at k1 e0 e1
        obtain ⟨lf, lc⟩ := l
        simp only at hlf e0 e1
        obtain ⟨m', hm'⟩ : ∃ m', m' = B'.length := ⟨_, rfl⟩
        rw [← hm'] at k1
        have hjm : (j : Int) + 1 + (m' : Int) ≤ 2049 := by rw [hab, List.length_append, List.length_cons] at hhn5; omega
        have hml := Hsp5.out.ok.mem (lf, lc) (by rw [hab]; simp)
        simp only at hml
        have g1 : (j : Int) < (j : Int) + 1 + (m' : Int) := by omega
        have g2 : (lf + lc == f) = true := by simpa using hlf
        have g3 : IntKind.i64.wrap (lf + lc) = lf + lc := by rw [IntKind.wrap_i64]; omega
        have g4 : IntKind.i64.wrap (lc + c') = lc + c' := by rw [IntKind.wrap_i64]; omega
        subst hij
        have Hj := hid hj
        have Hm' := hid hm'
        have Hab := hid hab
        have HAl := hid hAl
        have Hlf := hid hlf
        have Hog := hid hog
        have Hsp6 := hid hsp6
        clear hj hm' hab hAl hlf hog hsp6 c1 c0 hhn5 Hcell
        go_quiet (fail)
        have hog5 := Hog.out
        subst hog5
        have hfz : w5.frozen? ⟨g, j * 2 + 1, none⟩ = false := sp_unfrozen Hsp6.out _
        go_wp2_with fail
        go_region
        go_wp2_with fail
        go_ret
        have hsp7 : Sp (w5.drewN nq) p (some g) n (A0 ++ (lf, lc) :: B') := Hsp6.out.below (Below.drewN (Below.refl _ _) _)
        have hadd := addF_left (A0 := A0) (B := B) (l := (lf, lc)) (f := f) (c := c) Hlf.out
        rw [Hmg.out.1, Hmg.out.2] at hadd
        rw [HAl.out, hadd] at Hspec
        have hset := sp_setcount (x := lc + c') hsp7 Hspec.out.1
        rw [← Hj.out] at hset
        refine .inr (.inr ⟨Hin.out, Hu.out, _, Hspec.out.1, ?_, rfl, some g, ?_, ?_⟩)
        · rw [HAl.out]; exact Hspec.out.2
        · exact hset.below ((Below.refl _ _).drew)
        · refine Hst5.out.trans ⟨?_, fun k hk => .inl hk⟩
          exact (((Upd.refl _ _).drewN nq).setCell (p := ⟨g, j * 2 + 1, none⟩) (fun _ => .inr rfl) _).drew
      · have hlm' : ∀ A0 l, A = A0 ++ [l] → l.1 + l.2 ≠ f := fun A0 l h1 h2 => hlm ⟨A0, l, h1, h2⟩
        have hadd := addF_none (B := B) (c := c) hlm'
        rw [Hmg.out.1, Hmg.out.2] at hadd
        rw [hadd] at Hspec
        have Hlm := hid hlm'
        clear hadd hlm hlm'
        have hrow0 : ∀ m, ((w5.alloc (.cells #[.int .i64 f, .int .i64 c'] 83)).drewN m).heap[w5.heap.size]? = some (.cells #[.int .i64 f, .int .i64 c'] 83 (0, 0)) := fun _ => heap_alloc_new w5 _
        have Hrow0 := hid hrow0
        have Hbel0 : Hid (∀ m, Below w5.heap.size w5 ((w5.alloc (.cells #[.int .i64 f, .int .i64 c'] 83)).drewN m)) := hid fun m => Below.drewN ((Below.refl _ _).alloc (Nat.le_refl _) _) m
        have hcA : (w5.alloc (.cells #[.int .i64 f, .int .i64 c'] 83)).cell? ⟨p, 1, none⟩ = some (.slice a L cap) := by
          rw [World.cell?_of_block (w := w5) (Below.heap_alloc w5 _ p hp5)]; exact c1
        have hcA2 : ∀ m, ((w5.alloc (.cells #[.int .i64 f, .int .i64 c'] 83)).drewN m).cell? ⟨p, 1, none⟩ = some (.slice a L cap) := fun _ => hcA
        have hcA3 : ∀ m, ((w5.drewN m).alloc (.cells #[.int .i64 f, .int .i64 c'] 83)).cell? ⟨p, 1, none⟩ = some (.slice a L cap) := fun _ => hcA
        have Hrow1 : Hid (∀ m, ((w5.drewN m).alloc (.cells #[.int .i64 f, .int .i64 c'] 83)).heap[w5.heap.size]? = some (.cells #[.int .i64 f, .int .i64 c'] 83 (0, 0))) := hid fun m => heap_alloc_new (w5.drewN m) _
        have Hbel1 : Hid (∀ m, Below w5.heap.size w5 ((w5.drewN m).alloc (.cells #[.int .i64 f, .int .i64 c'] 83))) := hid fun m => (Below.drewN (Below.refl _ _) m).alloc (Nat.le_refl _) _
        clear hrow0
        rcases List.eq_nil_or_concat A with hA0 | ⟨A0, l, hA0⟩
        · have hi0 : i = 0 := by rw [Hi2.out, hA0]; rfl
          have Hi0 := hid hA0
          subst hi0
          clear hA0
          go_quiet (fail)
          go_wp2_with fail
          go_region_with ((go_at_call 58; refine (Hins.out _ (by first | rfl | omega | (simp; done)) _ _ (by first | exact Hbel0.out _ | exact Hbel1.out _) (by first | exact Hrow0.out _ | exact Hrow1.out _) (by exact Nat.le_refl _)).mono ?_; rintro e w7 ⟨g', cap', cur', rfl, hg', hrow, hnc, hcm', hcs, htk, hu⟩; obtain ⟨q1, q2, q3, q4⟩ := ins_end Hpb5.out Hne5.out Ho5.out (by first | exact Hbel0.out _ | exact Hbel1.out _) hg' hrow hnc hcm' hcs htk hu hn0 hn1 Hspec.out.1; have Q3 := hid q3; have Q4 := hid q4; clear q3 q4 hu htk hcs hrow hnc))
          all_goals
            go_wp2_with fail
            go_ret
            have hll : (A ++ (f, c') :: B').length = A.length + (B'.length + 1) := by simp
            rw [hll] at Q3 Q4
            exact .inr (.inr ⟨Hin.out, Hu.out, _, Hspec.out.1, Hspec.out.2, rfl, some g', Q3.out, Hst5.out.trans Q4.out⟩)
        · rw [List.concat_eq_append] at hA0
          obtain ⟨j, hj⟩ : ∃ j, j = A0.length := ⟨_, rfl⟩
          have hij : i = j + 1 := by rw [Hi2.out, hA0, hj]; simp
          have hjL : j < L := by rw [HL.out, hA0]; simp; omega
          obtain ⟨g, rfl, hog, e0, e1⟩ := Hel.out j (by rw [← HL.out]; exact hjL)
          have hget : (A ++ B')[j]'(by rw [← HL.out]; exact hjL) = l := by simp [hA0, hj]
          rw [hget] at e0 e1
          have hml := Hsp5.out.ok.mem l (by rw [hA0]; simp)
          have hlf := Hlm.out A0 l hA0
          obtain ⟨lf, lc⟩ := l
          simp only at e0 e1 hml hlf
          have g1 : (j : Int) < (L : Int) := by omega
          have g5 : (L : Int) ≤ 2049 := by rw [HL.out]; exact hhn5
          have g2 : (lf + lc == f) = false := by simpa using hlf
          have g3 : IntKind.i64.wrap (lf + lc) = lf + lc := by rw [IntKind.wrap_i64]; omega
          subst hij
          have Hj := hid hj
          have HA0 := hid hA0
          have Hlf := hid hlf
          have Hog := hid hog
          clear hj hA0 hlf hog hget hhn5
          go_quiet (fail)
          go_wp2_with fail
          go_region_with ((go_at_call 58; refine (Hins.out _ (by first | rfl | omega | (simp; done)) _ _ (by first | exact Hbel0.out _ | exact Hbel1.out _) (by first | exact Hrow0.out _ | exact Hrow1.out _) (by exact Nat.le_refl _)).mono ?_; rintro e w7 ⟨g', cap', cur', rfl, hg', hrow, hnc, hcm', hcs, htk, hu⟩; obtain ⟨q1, q2, q3, q4⟩ := ins_end Hpb5.out Hne5.out Ho5.out (by first | exact Hbel0.out _ | exact Hbel1.out _) hg' hrow hnc hcm' hcs htk hu hn0 hn1 Hspec.out.1; have Q3 := hid q3; have Q4 := hid q4; clear q3 q4 hu htk hcs hrow hnc))
          all_goals
            go_wp2_with fail
            go_ret
            have hll : (A ++ (f, c') :: B').length = A.length + (B'.length + 1) := by simp
            rw [hll] at Q3 Q4
            exact .inr (.inr ⟨Hin.out, Hu.out, _, Hspec.out.1, Hspec.out.2, rfl, some g', Q3.out, Hst5.out.trans Q4.out⟩)
end Go.Proofs.Ytkhejipcclpknaa
