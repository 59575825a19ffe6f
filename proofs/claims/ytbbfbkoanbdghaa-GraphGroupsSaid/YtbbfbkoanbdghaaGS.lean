/- step and Reach of a graph. No statement is proved here. -/
import Derived.Test.YtbbfbkoanbdghaaGD
set_option linter.unusedVariables false
set_option linter.unusedSimpArgs false
namespace Go.Proofs.Ytbbfbkoanbdghaa
open Go.RowKit

def stepF (D : Nat → Int) (mask : Int) (best : Int) (e : E) : Int :=
  if inM e.lab mask = true ∧ 0 ≤ D e.to.toNat then (if best < 0 ∨ D e.to.toNat < D best.toNat ∨ (D e.to.toNat = D best.toNat ∧ e.to < best) then e.to else best) else best
def bestE (D : Nat → Int) (mask : Int) (l : List E) : Int := l.foldl (stepF D mask) (-1)
theorem bestE_next (D : Nat → Int) (mask : Int) (l : List E) (p : Nat) (hp : p < l.length) : bestE D mask (l.take (p + 1)) = stepF D mask (bestE D mask (l.take p)) l[p] := by
  unfold bestE
  rw [List.take_succ_eq_append_getElem hp, List.foldl_append]
  rfl
theorem bestE_in (D : Nat → Int) (mask : Int) (N : Nat) : ∀ l : List E, (∀ e ∈ l, 0 ≤ e.to ∧ e.to < N) → bestE D mask l = -1 ∨ (0 ≤ bestE D mask l ∧ bestE D mask l < N) := by
  intro l
  unfold bestE
  have key : ∀ (l : List E) (b : Int), (b = -1 ∨ (0 ≤ b ∧ b < N)) → (∀ e ∈ l, 0 ≤ e.to ∧ e.to < N) → (l.foldl (stepF D mask) b = -1 ∨ (0 ≤ l.foldl (stepF D mask) b ∧ l.foldl (stepF D mask) b < N)) := by
    intro l
    induction l with
    | nil => intro b hb _; exact hb
    | cons e l ih =>
      intro b hb he
      rw [List.foldl_cons]
      refine ih _ ?_ fun x hx => he x (List.mem_cons_of_mem _ hx)
      have h1 := he e (by simp)
      unfold stepF
      split
      · split
        · exact .inr h1
        · exact hb
      · exact hb
  exact fun he => key l (-1) (.inl rfl) he
theorem out_mem {es : List E} {N x : Nat} (hx : x < N) {e : E} (h : e ∈ rowE es N x) : e ∈ es ∧ e.frm = (x : Int) := by
  unfold rowE at h
  rw [if_pos hx, List.mem_filter] at h
  refine ⟨h.1, ?_⟩
  have := h.2
  simp at this
  exact this
set_option maxHeartbeats 16000000 in
set_option maxRecDepth 100000 in
theorem step_any {B : Nat} {w : World} {g N : Nat} {es : List E} {mb ob bb : Nat} {oc bc : Array Value} {vs : Nat → Value} (h : Gr B w g N es mb ob bb oc bc vs) (f : Nat) (hf : f < N) (mask : Int) (d : Nat) (D : Nat → Int) (hR : IntRow w d N D) :
    Calls Try.prog 32 #[.pointer (some ⟨g, 0, none⟩), .int .i64 (f : Int), .int .i64 mask, .slice (some ⟨d, 0, none⟩) N N] w fun e w' => e = .returned (.int .i64 (bestE D mask (rowE es N f))) ∧ Below w.heap.size w w' := by
  have H0 := hid h
  have HR0 := hid hR
  have hfI : (f : Int) < (N : Int) := by omega
  have g2 : w.cell? ⟨g, 2, none⟩ = some (.slice (some ⟨ob, 0, none⟩) N N) := (blk_cell h.hg 2).trans rfl
  obtain ⟨a, c2, hv, hin, _, _⟩ := own_ein (h.row f (by omega))
  have b2 : w.cell? ⟨ob, f, none⟩ = some (.slice a (rowE es N f).length c2) := (blk_cell h.ho f).trans ((h.co f hf).trans (by rw [hv]))
  have HIN := hid hin
  obtain ⟨L, hL⟩ : ∃ L, L = rowE es N f := ⟨_, rfl⟩
  rw [← hL] at b2 HIN ⊢
  have HL := hid hL
  clear hv hin hL h hR
  go_enter Try.func32, Try.ntmps32
  go_wp2_with fail
  clear g2 b2
  go_loopg [9, 20] L.length (fun gh s9 s20 wr => ∃ p : Nat, p ≤ L.length ∧ gh = L.length - p ∧ s20 = .int .i64 p ∧ s9 = .int .i64 (bestE D mask (L.take p)) ∧ Hid (Below w.heap.size w wr))
  case atStart => exact ⟨0, Nat.zero_le _, by omega, rfl, rfl, hid (Below.refl _ _)⟩
  case round =>
    obtain ⟨p, hp, rfl, rfl, rfl, HB⟩ := hrel
    by_cases hpl : p < L.length
    · have hne : L ≠ [] := by
        intro h
        rw [h] at hpl
        simp at hpl
      obtain ⟨be, rfl, hbl, hce⟩ := (HIN.out.below HB.out) hne
      have hx := hce p hpl
      have hmem := out_mem hf (show L[p] ∈ rowE es N f by rw [← HL.out]; exact List.getElem_mem _)
      have hok := H0.out.ok _ hmem.1
      have hnext := hid (bestE_next D mask L p hpl)
      have hbin := bestE_in D mask N (L.take p) fun e he => by
        have h1 := (out_mem hf (show e ∈ rowE es N f by rw [← HL.out]; exact List.mem_of_mem_take he)).1
        have := H0.out.ok e h1
        exact ⟨this.2.2.1, this.2.2.2.1⟩
      generalize L[p] = e at *
      obtain ⟨ef, et, el⟩ := e
      obtain ⟨k1, k2, k3, k4, k5, k6⟩ := hok
      obtain ⟨hm1, hm2⟩ := hmem
      simp only at k1 k2 k3 k4 k5 k6 hm2
      subst hm2
      obtain ⟨u, rfl⟩ := Int.eq_ofNat_of_zero_le k3
      have huN : u < N := by omega
      have x0 : wr.cell? ⟨be, p * 3, none⟩ = some (.int .i64 (f : Int)) := hx 0 (by omega)
      have x1 : wr.cell? ⟨be, p * 3 + 1, none⟩ = some (.int .i64 (u : Int)) := hx 1 (by omega)
      have x2 : wr.cell? ⟨be, p * 3 + 2, none⟩ = some (.int .i64 el) := hx 2 (by omega)
      have hpI : (p : Int) < (L.length : Int) := by omega
      have hp63 : (p : Int) + 1 ≤ 9223372036854775807 := by
        have h1 := rowE_len es N f
        rw [← HL.out] at h1
        have := H0.out.len
        omega
      have hal := (Below.refl _ wr).alloc (Nat.le_refl _) (.cells #[.int .i64 (f : Int), .int .i64 (u : Int), .int .i64 el] 29)
      have hws : w.heap.size ≤ wr.heap.size := HB.out.size
      have X4 : Hid ((wr.alloc (.cells #[.int .i64 (f : Int), .int .i64 (u : Int), .int .i64 el] 29)).heap[wr.heap.size]? = some (.cells #[.int .i64 (f : Int), .int .i64 (u : Int), .int .i64 el] 29 (0, 0))) := hid (heap_alloc_new wr _)
      have HB4 := hid (HB.out.trans (hal.mono hws))
      have hbx : wr.heap.size ≠ d := by have := HR0.out.lt; omega
      clear hx hce hm1 hal HB
      obtain ⟨best, hbest⟩ : ∃ best, best = bestE D mask (L.take p) := ⟨_, rfl⟩
      rw [← hbest] at hbin hnext ⊢
      clear hbest
      go_upto_region 5 with fail
      clear x0 x1 x2
      obtain ⟨w4, hw4⟩ : ∃ w4, wr.alloc (.cells #[.int .i64 (f : Int), .int .i64 (u : Int), .int .i64 el] 29) = w4 := ⟨_, rfl⟩
      obtain ⟨bx, hbx2⟩ : ∃ bx, bx = wr.heap.size := ⟨_, rfl⟩
      rw [hw4] at X4 HB4 ⊢
      rw [← hbx2] at X4 hbx ⊢
      clear hw4 hbx2 hws
      have x0 : w4.cell? ⟨bx, 0, none⟩ = some (.int .i64 (f : Int)) := (blk_cell X4.out 0).trans rfl
      have x1 : w4.cell? ⟨bx, 1, none⟩ = some (.int .i64 (u : Int)) := (blk_cell X4.out 1).trans rfl
      have x2 : w4.cell? ⟨bx, 2, none⟩ = some (.int .i64 el) := (blk_cell X4.out 2).trans rfl
      have hinn := in_any ⟨(f : Int), (u : Int), el⟩ mask w4 k5 k6
      have huI : (u : Int) < (N : Int) := by omega
      cases hin : inM el mask with
      | false =>
        simp only [hin] at hinn
        have HI := hid hinn
        clear hinn
        go_wp2_with (go_at_call 34; refine HI.out.mono ?_; rintro e w5 ⟨rfl, hla⟩)
        have HB5 := hid (HB4.out.trans (hla.below.mono HB4.out.size))
        go_roundg (L.length - (p + 1))
        case measure => omega
        case rel => exact ⟨p + 1, by omega, rfl, by go_num, by rw [hnext.out]; unfold stepF; rw [if_neg (by simp [hin])], HB5⟩
      | true =>
        simp only [hin] at hinn
        have HI := hid hinn
        clear hinn
        by_cases hdu : D u < 0
        · go_wp2_with (go_at_call 34; refine HI.out.mono ?_; rintro e w5 ⟨rfl, hla⟩; have y1 : w5.cell? ⟨bx, 1, none⟩ = some (.int .i64 (u : Int)) := (hla.below.cell (p := ⟨bx, 1, none⟩) (blk_lt X4.out)).trans x1; have hd5 : ∀ i, i < N → w5.cell? ⟨d, i, none⟩ = some (.int .i64 (D i)) := fun i hi => ((HB4.out.trans (hla.below.mono HB4.out.size)).cell (p := ⟨d, i, none⟩) HR0.out.lt).trans (HR0.out.cell hi); have du : w5.cell? ⟨d, u, none⟩ = some (.int .i64 (D u)) := hd5 u huN; have Hd5 := hid hd5; clear hd5)
          have HB5 := hid (HB4.out.trans (hla.below.mono HB4.out.size))
          have hdu' : ¬ 0 ≤ D u := by omega
          go_roundg (L.length - (p + 1))
          case measure => omega
          case rel => exact ⟨p + 1, by omega, rfl, by go_num, by rw [hnext.out]; unfold stepF; rw [if_neg (by simp [hdu'])], HB5⟩
        · have hdu' := hid (Int.not_lt.1 hdu)
          have dd : decide (D u < 0) = false := decide_eq_false hdu
          clear hdu
          go_upto_region 6 with (go_at_call 34; refine HI.out.mono ?_; rintro e w5 ⟨rfl, hla⟩; have y1 : w5.cell? ⟨bx, 1, none⟩ = some (.int .i64 (u : Int)) := (hla.below.cell (p := ⟨bx, 1, none⟩) (blk_lt X4.out)).trans x1; have hd5 : ∀ i, i < N → w5.cell? ⟨d, i, none⟩ = some (.int .i64 (D i)) := fun i hi => ((HB4.out.trans (hla.below.mono HB4.out.size)).cell (p := ⟨d, i, none⟩) HR0.out.lt).trans (HR0.out.cell hi); have du : w5.cell? ⟨d, u, none⟩ = some (.int .i64 (D u)) := hd5 u huN; have Hd5 := hid hd5; clear hd5)
          have HB5 := hid (HB4.out.trans (hla.below.mono HB4.out.size))
          have mixed : True := trivial
          clear x0 x1 x2 HI hla HB4 dd
          have hstep : Hid (stepF D mask best ⟨(f : Int), (u : Int), el⟩ = if best < 0 ∨ D u < D best.toNat ∨ (D u = D best.toNat ∧ (u : Int) < best) then (u : Int) else best) := hid (by unfold stepF; rw [if_pos ⟨hin, by simpa using hdu'.out⟩]; rfl)
          rcases hbin with hb | ⟨hb0, hb1⟩
          · subst hb
            go_quiet (fail)
            have HB6 := hid (_root_.Go.Proofs.Ytbbfbkoanbdghaa.Below.drewN HB5.out nq)
            have y6 : (w5.drewN nq).cell? ⟨bx, 1, none⟩ = some (.int .i64 (u : Int)) := y1
            clear y1 du Hd5 HB5 X4
            generalize w5.drewN nq = w6 at *
            go_wp2_with fail
            go_roundg (L.length - (p + 1))
            case measure => omega
            case rel => exact ⟨p + 1, by omega, rfl, by go_num, by rw [hnext.out, hstep.out]; rw [if_pos (.inl (by omega))], HB6⟩
          · obtain ⟨bn, rfl⟩ := Int.eq_ofNat_of_zero_le hb0
            have hbN : bn < N := by omega
            have hbI : (bn : Int) < (N : Int) := by omega
            have db : w5.cell? ⟨d, bn, none⟩ = some (.int .i64 (D bn)) := Hd5.out bn hbN
            have hb3 : ¬ (bn : Int) < 0 := by omega
            by_cases c1 : D u < D bn
            · have e1 : decide (D u < D bn) = true := decide_eq_true c1
              have C1 := hid c1
              clear c1
              go_quiet (fail)
              have HB6 := hid (_root_.Go.Proofs.Ytbbfbkoanbdghaa.Below.drewN HB5.out nq)
              have y6 : (w5.drewN nq).cell? ⟨bx, 1, none⟩ = some (.int .i64 (u : Int)) := y1
              clear y1 du Hd5 HB5 X4
              generalize w5.drewN nq = w6 at *
              go_wp2_with fail
              go_roundg (L.length - (p + 1))
              case measure => omega
              case rel => exact ⟨p + 1, by omega, rfl, by go_num, by rw [hnext.out, hstep.out]; rw [if_pos (.inr (.inl (by simpa using C1.out)))], HB6⟩
            · have e1 : decide (D u < D bn) = false := decide_eq_false c1
              have C1 := hid c1
              clear c1
              by_cases c2 : D u = D bn
              · have e2 : (D u == D bn) = true := by rw [c2]; simp
                have e2' : decide (D u = D bn) = true := decide_eq_true c2
                have C2 := hid c2
                clear c2
                by_cases c3 : (u : Int) < (bn : Int)
                · have e3 : decide ((u : Int) < (bn : Int)) = true := decide_eq_true c3
                  have e4 : decide (u < bn) = true := decide_eq_true (by omega)
                  have C3 := hid c3
                  clear c3
                  go_quiet (fail)
                  have HB6 := hid (_root_.Go.Proofs.Ytbbfbkoanbdghaa.Below.drewN HB5.out nq)
                  have y6 : (w5.drewN nq).cell? ⟨bx, 1, none⟩ = some (.int .i64 (u : Int)) := y1
                  clear y1 du Hd5 HB5 X4
                  generalize w5.drewN nq = w6 at *
                  go_wp2_with fail
                  go_roundg (L.length - (p + 1))
                  case measure => omega
                  case rel => exact ⟨p + 1, by omega, rfl, by go_num, by rw [hnext.out, hstep.out]; rw [if_pos (.inr (.inr ⟨by simpa using C2.out, C3.out⟩))], HB6⟩
                · have e3 : decide ((u : Int) < (bn : Int)) = false := decide_eq_false c3
                  have e4 : decide (u < bn) = false := decide_eq_false (by omega)
                  have C3 := hid c3
                  clear c3
                  go_quiet (fail)
                  have HB6 := hid (_root_.Go.Proofs.Ytbbfbkoanbdghaa.Below.drewN HB5.out nq)
                  have y6 : (w5.drewN nq).cell? ⟨bx, 1, none⟩ = some (.int .i64 (u : Int)) := y1
                  clear y1 du Hd5 HB5 X4
                  generalize w5.drewN nq = w6 at *
                  go_wp2_with fail
                  go_roundg (L.length - (p + 1))
                  case measure => omega
                  case rel => exact ⟨p + 1, by omega, rfl, by go_num, by rw [hnext.out, hstep.out]; rw [if_neg (by have h1 := C1.out; have h3 := C3.out; simp only [Int.toNat_natCast]; omega)], HB6⟩
              · have e2 : (D u == D bn) = false := beq_eq_false_iff_ne.mpr c2
                have e2' : decide (D u = D bn) = false := decide_eq_false c2
                have C2 := hid c2
                clear c2
                go_quiet (fail)
                have HB6 := hid (_root_.Go.Proofs.Ytbbfbkoanbdghaa.Below.drewN HB5.out nq)
                have y6 : (w5.drewN nq).cell? ⟨bx, 1, none⟩ = some (.int .i64 (u : Int)) := y1
                clear y1 du Hd5 HB5 X4
                generalize w5.drewN nq = w6 at *
                go_wp2_with fail
                go_roundg (L.length - (p + 1))
                case measure => omega
                case rel => exact ⟨p + 1, by omega, rfl, by go_num, by rw [hnext.out, hstep.out]; rw [if_neg (by have h1 := C1.out; have h2 := C2.out; simp only [Int.toNat_natCast]; omega)], HB6⟩
    · have hpe : p = L.length := by omega
      subst hpe
      go_wp2_with fail
      go_ret
      exact ⟨by rw [List.take_length]; rfl, HB.out⟩
theorem bestE_pos (D : Nat → Int) (mask : Int) : ∀ l : List E, (∀ e ∈ l, 0 ≤ e.to) → (0 ≤ bestE D mask l ↔ ∃ e ∈ l, inM e.lab mask = true ∧ 0 ≤ D e.to.toNat) := by
  intro l
  unfold bestE
  have key : ∀ (l : List E) (b : Int), (∀ e ∈ l, 0 ≤ e.to) → (0 ≤ l.foldl (stepF D mask) b ↔ 0 ≤ b ∨ ∃ e ∈ l, inM e.lab mask = true ∧ 0 ≤ D e.to.toNat) := by
    intro l
    induction l with
    | nil => intro b _; simp
    | cons e l ih =>
      intro b he
      rw [List.foldl_cons, ih _ fun x hx => he x (List.mem_cons_of_mem _ hx)]
      have h1 := he e (by simp)
      have h2 : 0 ≤ stepF D mask b e ↔ 0 ≤ b ∨ (inM e.lab mask = true ∧ 0 ≤ D e.to.toNat) := by
        unfold stepF
        by_cases hc : inM e.lab mask = true ∧ 0 ≤ D e.to.toNat
        · rw [if_pos hc]
          refine ⟨fun _ => .inr hc, fun _ => ?_⟩
          split
          · exact h1
          · omega
        · rw [if_neg hc]
          exact ⟨.inl, fun h => h.resolve_right hc⟩
      rw [h2]
      constructor
      · rintro ((h | h) | ⟨x, hx, h⟩)
        · exact .inl h
        · exact .inr ⟨e, by simp, h⟩
        · exact .inr ⟨x, List.mem_cons_of_mem _ hx, h⟩
      · rintro (h | ⟨x, hx, h⟩)
        · exact .inl (.inl h)
        · rcases List.mem_cons.1 hx with rfl | hx
          · exact .inl (.inr h)
          · exact .inr ⟨x, hx, h⟩
  intro he
  rw [key l (-1) he]
  exact ⟨fun h => h.resolve_left (by omega), .inr⟩
/-- There is a way from a to b over the mask, of one edge or more. -/
def Way (es : List E) (N : Nat) (mask : Int) (a b : Nat) : Prop := ∃ D, IsDist es N mask b D ∧ ∃ e ∈ es, e.frm = (a : Int) ∧ inM e.lab mask = true ∧ 0 ≤ D e.to.toNat
theorem way_iff {es : List E} {N a b : Nat} {mask : Int} {D : Nat → Int} (hD : IsDist es N mask b D) (hok : ∀ e ∈ es, okE N e) : Way es N mask a b ↔ ∃ e ∈ es, e.frm = (a : Int) ∧ inM e.lab mask = true ∧ 0 ≤ D e.to.toNat := by
  constructor
  · rintro ⟨D', hD', e, he, h1, h2, h3⟩
    have := hok e he
    exact ⟨e, he, h1, h2, by rw [hD.uniq hD' e.to.toNat (by obtain ⟨_, _, q1, q2, _, _⟩ := this; omega)]; exact h3⟩
  · rintro ⟨e, he, h⟩
    exact ⟨D, hD, e, he, h⟩
theorem way_edge {es : List E} {N a b : Nat} {mask : Int} (hD : ∃ D, IsDist es N mask b D) {e : E} (he : e ∈ es) (hf : e.frm = (a : Int)) (ht : e.to = (b : Int)) (hi : inM e.lab mask = true) : Way es N mask a b := by
  obtain ⟨D, hD⟩ := hD
  exact ⟨D, hD, e, he, hf, hi, by rw [ht, Int.toNat_natCast, hD.z]; omega⟩
def WayI (es : List E) (N : Nat) (mask a b : Int) : Prop := nodeB N a = true ∧ nodeB N b = true ∧ Way es N mask a.toNat b.toNat
def ReachPost (w : World) (es : List E) (N : Nat) (mask a b : Int) (e : Ending) (w' : World) : Prop := ∃ r : Bool, e = .returned (.bool r) ∧ (r = true ↔ WayI es N mask a b) ∧ Below w.heap.size w w' ∧ (nodeB N a = true → nodeB N b = true → ∃ D, IsDist es N mask b.toNat D)
set_option maxHeartbeats 4000000 in
set_option maxRecDepth 100000 in
theorem reach_any {B : Nat} {w : World} {g N : Nat} {es : List E} {mb ob bb : Nat} {oc bc : Array Value} {vs : Nat → Value} (h : Gr B w g N es mb ob bb oc bc vs) (a b mask : Int) :
    Calls Try.prog 14 #[.pointer (some ⟨g, 0, none⟩), .int .i64 a, .int .i64 b, .int .i64 mask] w (ReachPost w es N mask a b) := by
  have H0 := hid h
  have HN := hid (fun i => node_any h i)
  clear h
  cases hn1 : nodeB N a with
  | false =>
    go_enter Try.func14, Try.ntmps14
    go_wp2_with (go_at_call 28; refine (HN.out _).mono ?_; rintro e w' ⟨rfl, rfl⟩; rw [hn1])
    go_ret
    exact ⟨false, rfl, by simp [WayI, hn1], Below.refl _ _, fun h => by rw [hn1] at h; cases h⟩
  | true =>
    cases hn2 : nodeB N b with
    | false =>
      go_enter Try.func14, Try.ntmps14
      go_wp2_with (go_at_call 28; refine (HN.out _).mono ?_; rintro e w' ⟨rfl, rfl⟩; first | rw [hn1] | rw [hn2])
      go_ret
      exact ⟨false, rfl, by simp [WayI, hn2], Below.refl _ _, fun _ h => by rw [hn2] at h; cases h⟩
    | true =>
      have h1 := hn1
      have h2 := hn2
      simp [nodeB] at h1 h2
      obtain ⟨x, rfl⟩ := Int.eq_ofNat_of_zero_le h1.1
      obtain ⟨y, rfl⟩ := Int.eq_ofNat_of_zero_le h2.1
      have hx : x < N := by omega
      have hy : y < N := by omega
      clear h1 h2
      go_enter Try.func14, Try.ntmps14
      go_wp2_with (first
        | (go_at_call 28; refine (HN.out _).mono ?_; rintro e w' ⟨rfl, rfl⟩; first | rw [hn1] | rw [hn2])
        | (go_at_call 33; refine (dist_any H0.out y hy mask).mono ?_; rintro e w1 ⟨d, D, rfl, hD, hR, hdw, hB1⟩; have HD := hid hD; have HR := hid hR; have HB1 := hid hB1; clear hD hR hB1)
        | (go_at_call 32; refine (step_any (H0.out.below HB1.out) x hx mask d D HR.out).mono ?_; rintro e w2 ⟨rfl, hB2⟩))
      go_ret
      refine ⟨_, rfl, ?_, HB1.out.trans (hB2.mono HB1.out.size), fun _ _ => ⟨D, by simpa using HD.out⟩⟩
      rw [decide_eq_true_eq, bestE_pos D mask _ (fun e he => (H0.out.ok e (out_mem hx he).1).2.2.1)]
      have hw := way_iff (a := x) HD.out H0.out.ok
      unfold WayI
      simp only [Int.toNat_natCast]
      rw [hw]
      constructor
      · rintro ⟨e, he, h⟩
        exact ⟨hn1, hn2, e, (out_mem hx he).1, (out_mem hx he).2, h⟩
      · rintro ⟨_, _, e, he, hf, h⟩
        refine ⟨e, ?_, h⟩
        unfold rowE
        rw [if_pos hx, List.mem_filter]
        exact ⟨he, by rw [hf]; simp⟩
end Go.Proofs.Ytbbfbkoanbdghaa
