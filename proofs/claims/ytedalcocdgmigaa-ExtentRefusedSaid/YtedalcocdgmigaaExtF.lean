/- The space's Take. No statement is proved here. -/
import Derived.Test.YtedalcocdgmigaaExtE
set_option linter.unusedVariables false
set_option linter.unusedSimpArgs false
namespace Go.Proofs.Ytedalcocdgmigaa
open Go.RowKit

/-- What Take does. -/
def TakePost (w : World) (p : Nat) (o : Option Nat) (n : Int) (hs : List (Int × Int)) (f c : Int) (e : Ending) (w' : World) : Prop :=
  (insideB n f c = false ∧ e = .returned (.int .i64 43) ∧ Below w.heap.size w w') ∨
  (insideB n f c = true ∧ (∃ x, f ≤ x ∧ x < f + c ∧ freeB hs x = false) ∧ e = .returned (.int .i64 45) ∧ Below w.heap.size w w') ∨
  (insideB n f c = true ∧ (∀ x, f ≤ x → x < f + c → freeB hs x = true) ∧ ∃ hs', okFrom 0 n hs' ∧ (∀ x, freeB hs' x = (freeB hs x && !(decide (f ≤ x) && decide (x < f + c)))) ∧ SpPost w p o n hs' (.int .i64 0) e w')

theorem insideB_true {n f c : Int} (h : insideB n f c = true) : 1 ≤ c ∧ 0 ≤ f ∧ f < n ∧ f + c ≤ n := by
  simp [insideB] at h; omega

theorem sp_cells {w : World} {p : Nat} {o : Option Nat} {n : Int} {A r : List (Int × Int)} {h : Int × Int} (hs : Sp w p o n (A ++ h :: r)) :
    ∃ g cap, o = some g ∧ w.cell? ⟨p, 1, none⟩ = some (.slice (some ⟨g, 0, none⟩) (A.length + 1 + r.length) cap) ∧ w.cell? ⟨g, A.length * 2, none⟩ = some (.int .i64 h.1) ∧ w.cell? ⟨g, A.length * 2 + 1, none⟩ = some (.int .i64 h.2) ∧ g < w.heap.size := by
  obtain ⟨a, cap, c0, c1, f1, hp, ho, hob, own, hel, hcap, hcm⟩ := hs.open
  obtain ⟨g, rfl, hog, e0, e1⟩ := hel A.length (by simp)
  refine ⟨g, cap, hog, ?_, by simpa using e0, by simpa using e1, ho g hog⟩
  rw [c1]; congr 2; simp; omega

set_option maxHeartbeats 1000000 in
set_option maxRecDepth 100000 in
theorem take_any (p : Nat) (o : Option Nat) (n f c : Int) (hs : List (Int × Int)) (w : World) (h : Sp w p o n hs) :
    Calls Try.prog 14 #[.pointer (some ⟨p, 0, none⟩), .agg #[.int .i64 f, .int .i64 c]] w (TakePost w p o n hs f c) := by
  have hn0 := h.n0
  have hn1 := h.n1
  have hp := h.lt.1
  have hok := h.ok
  have hnl := h.hn
  obtain ⟨a0, cap0, c00, _⟩ := h.open
  have HI : ∀ (W : World), Below w.heap.size w W → Calls Try.prog 24 #[.pointer (some ⟨p, 0, none⟩), .agg #[.int .i64 f, .int .i64 c]] W fun e w' => e = .returned (.bool (insideB n f c)) ∧ Below W.heap.size W w' := fun W hb =>
    inside_any p n f c W hn0 hn1 (Nat.lt_of_lt_of_le hp hb.size) ((hb.cell (p := ⟨p, 0, none⟩) hp).trans c00)
  have HA : ∀ (W : World), Below w.heap.size w W → Calls Try.prog 25 #[.pointer (some ⟨p, 0, none⟩), .int .i64 f] W (AfterPost hs f W) := fun W hb => after_any p o n f hs W (h.below hb)
  have Hi := hid HI
  have Ha := hid HA
  have Hok := hid hok
  clear HI HA c00 hok
  have hb1 : Below w.heap.size w (w.alloc (.cells #[.int .i64 f, .int .i64 c] 31)) := (Below.refl _ _).alloc (Nat.le_refl _) _
  go_enter Try.func14, Try.ntmps14
  go_wp2_with fail
  refine (Hi.out _ hb1).mono ?_
  rintro e w1 ⟨rfl, hb2⟩
  cases hin : insideB n f c with
  | false =>
    have Hin := hid hin
    clear hin
    have hb : Below w.heap.size w w1 := hb1.trans (hb2.mono (by simp))
    go_wp2_with fail
    go_ret
    exact .inl ⟨Hin.out, rfl, hb⟩
  | true =>
    have hif := insideB_true hin
    have Hin := hid hin
    clear hin
    have hb : Below w.heap.size w w1 := hb1.trans (hb2.mono (by simp))
    have hbx : w1.heap[w.heap.size]? = some (.cells #[.int .i64 f, .int .i64 c] 31 (0, 0)) := (hb2.block _ (by simp)).trans (heap_alloc_new w _)
    have b0 := blk_cell hbx 0
    have b1 := blk_cell hbx 1
    simp at b0 b1
    clear hb1 hb2
    go_wp2_with fail
    refine (Ha.out _ hb).mono ?_
    rintro e w2 ⟨hb3, A, B, rfl, rfl, hA, hB⟩
    have hb' : Below w.heap.size w w2 := hb.trans (hb3.mono hb.size)
    have hbx2 : w2.heap[w.heap.size]? = some (.cells #[.int .i64 f, .int .i64 c] 31 (0, 0)) := (hb3.block _ (blk_lt hbx)).trans hbx
    have d0 := blk_cell hbx2 0
    have d1 := blk_cell hbx2 1
    simp at d0 d1
    clear b0 b1 hb3 hb
    obtain ⟨i, hi⟩ : ∃ i, i = A.length := ⟨_, rfl⟩
    have hs2 := h.below hb'
    rw [← hi]
    have Hi2 := hid hi
    have HB := hid hB
    clear hB
    cases B with
    | nil =>
      obtain ⟨a, cap, c0, c1, f1, _⟩ := hs2.open
      rw [List.append_nil, ← hi] at c1
      clear hi
      go_wp2_with fail
      go_quiet (fail)
      go_wp2_with fail
      go_ret
      refine .inr (.inl ⟨Hin.out, ⟨f, by omega, by omega, ?_⟩, rfl, Below.drewN hb' _⟩)
      rw [List.append_nil]
      exact none_free (e := (f, c)) hA f (by simp)
    | cons hh r =>
      obtain ⟨g, cap, rfl, c1, e0, e1, hgl⟩ := sp_cells hs2
      rw [← hi] at c1 e0 e1
      clear hi
      have hlt := HB.out hh r rfl
      have hm := Hok.out.mem hh (by simp)
      have hall := all_free (e := (f, c)) Hok.out hA hlt hif.1
      have hall2 : ∀ x, f ≤ x → x < f + c → freeB (A ++ hh :: r) x = true ∨ freeB (A ++ hh :: r) x = false := fun x _ _ => by cases freeB (A ++ hh :: r) x <;> simp
      have hcutok := fun h1 h3 => cut_ok (e := (f, c)) Hok.out h1 hif.1 h3
      have hcutfr := fun h1 h3 => cut_free (e := (f, c)) Hok.out h1 hif.1 h3
      have hcut := fun (W : World) (hW : Below w.heap.size w W) h1 h3 => cut_any p _ n A r hh (f, c) W (h.below hW) h1 hif.1 h3
      rw [← Hi2.out] at hcut
      obtain ⟨hf, hc⟩ := hh
      simp only at c1 e0 e1 hlt hm hcut
      have Hall := hid hall
      have Hco := hid hcutok
      have Hcf := hid hcutfr
      have Hc := hid hcut
      obtain ⟨m, hmm⟩ : ∃ m, m = r.length := ⟨_, rfl⟩
      rw [← hmm] at c1
      have him : (i : Int) + 1 + (m : Int) ≤ 4096 := by
        have h1 := hs2.hn
        have h2 := Hi2.out
        simp at h1
        omega
      have g1 : ((i : Int) == (i : Int) + 1 + (m : Int)) = false := by simp; omega
      have g2 : (i : Int) < (i : Int) + 1 + (m : Int) := by omega
      have w1' : IntKind.i64.wrap (hf + hc) = hf + hc := by rw [IntKind.wrap_i64]; omega
      have w2' : IntKind.i64.wrap (f + c) = f + c := by rw [IntKind.wrap_i64]; omega
      have Hrest := hid hall2
      clear hall hcutok hcutfr hcut hall2 hs2 hmm hm
      by_cases q1 : f < hf
      · have q1' : decide (f < hf) = true := decide_eq_true q1
        go_wp2_with fail
        go_quiet (fail)
        go_wp2_with fail
        go_ret
        refine .inr (.inl ⟨Hin.out, ?_, rfl, Below.drewN hb' _⟩)
        refine Classical.byContradiction fun hno => ?_
        have := Hall.out.1 fun x hx1 hx2 => by
          cases hxx : freeB (A ++ (hf, hc) :: r) x with
          | true => rfl
          | false => exact absurd ⟨x, hx1, hx2, hxx⟩ hno
        have t1 : hf ≤ f := this.1
        omega
      · have q1' : decide (f < hf) = false := decide_eq_false q1
        by_cases q2 : hf + hc < f + c
        · have q2' : decide (hf + hc < f + c) = true := decide_eq_true q2
          go_wp2_with fail
          go_quiet (fail)
          go_wp2_with fail
          go_ret
          refine .inr (.inl ⟨Hin.out, ?_, rfl, Below.drewN hb' _⟩)
          refine Classical.byContradiction fun hno => ?_
          have := Hall.out.1 fun x hx1 hx2 => by
            cases hxx : freeB (A ++ (hf, hc) :: r) x with
            | true => rfl
            | false => exact absurd ⟨x, hx1, hx2, hxx⟩ hno
          have t2 : f + c ≤ hf + hc := this.2
          omega
        · have q2' : decide (hf + hc < f + c) = false := decide_eq_false q2
          go_wp2_with fail
          go_quiet (fail)
          go_wp2_with fail
          refine (Hc.out _ (Below.drewN hb' _) (by omega) (by omega)).mono ?_
          rintro e w3 ⟨rfl, o', hsp, hst⟩
          have Hsp := hid hsp
          have Hst := hid hst
          clear hsp hst
          go_wp2_with fail
          go_ret
          have hq1 : hf ≤ f := by omega
          have hq2 : f + c ≤ hf + hc := by omega
          refine .inr (.inr ⟨Hin.out, Hall.out.2 ⟨hq1, hq2⟩, _, Hco.out hq1 hq2, Hcf.out hq1 hq2, rfl, o', Hsp.out, ?_⟩)
          exact (SpStep.of_below (Below.drewN hb' _)).trans Hst.out
end Go.Proofs.Ytedalcocdgmigaa
