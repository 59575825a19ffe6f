/- The library's stable sort: symMerge. No statement is proved here. -/
import Derived.Test.YtgimpkbknaopcaaStB
import Derived.Deep.Cut
set_option linter.unusedVariables false
set_option linter.unusedSimpArgs false
namespace Go.Proofs.Ytgimpkbknaopcaa
open Go.RowKit Go.Shelf Go.Lib
open Go.Sort hiding Below
section
variable {α : Type} [Inhabited α] {P : Program}

def SymPost (enc : α → List Value) (k : Nat) (w0 : World) (blk off : Nat) (lt : α → α → Bool) (a b : Nat) (d : Array α) (e : Ending) (w' : World) : Prop :=
  e = .returned (.tuple #[]) ∧ ∃ d', PermIn a b d d' ∧ SortedIn lt a b d' ∧ SWK enc k w0 blk off d' w'
theorem SymPost.ret {enc : α → List Value} {k : Nat} {w0 : World} {blk off : Nat} {lt : α → α → Bool} {a b : Nat} {d : Array α} {w' : World} {e : Ending} (he : e = .returned (.tuple #[])) {d' : Array α} (h1 : PermIn a b d d') (h2 : SortedIn lt a b d') (h3 : SWK enc k w0 blk off d' w') : SymPost enc k w0 blk off lt a b d e w' := ⟨he, d', h1, h2, h3⟩
variable {k : Nat} (L : StL P k) (enc : α → List Value) (cf : α → α → Int) (lt : α → α → Bool) (tag : α → Nat) (hag : ∀ x y, tag y < tag x → ltOf cf x y = lt x y) (hS : SWO lt) (g : Nat) (cb : Array Value) (eg : ∀ args w, (callFunc g args).run P w = .ok (.enter g args) w) (blk off cap : Nat) (d0 : Array α) (w0 : World) (R : RowK enc k w0 blk off d0) (hcmp : CmpLays P g cb enc k cf blk off d0.size w0) (hsz : d0.size < 2305843009213693952)
include L hag hS eg R hcmp hsz

set_option maxHeartbeats 4000000 in
set_option maxRecDepth 1000000 in
/-- One element on the left. -/
theorem sym_left (a m b : Nat) (d : Array α) (w : World) (hm1 : m = a + 1) (hmb : m < b) (hb : b ≤ d.size) (hsd : d.size = d0.size) (hr : SortedIn lt m b d) (ht : ∀ p q, a ≤ p → p < m → m ≤ q → q < b → tag d[p]! < tag d[q]!) (S : SWK enc k w0 blk off d w) :
    Calls P 50 #[.slice (some ⟨blk, off, none⟩) d0.size cap, .int .i64 a, .int .i64 m, .int .i64 b, .func (.func g) #[] cb] w (SymPost enc k w0 blk off lt a b d) := by
  have vS := run_underlying L.uS
  have mixed := L.mixed; have uS := L.uS; have aE := L.aE; have zE := L.zE; have uI := L.uI; have uU := L.uU
  have hf := L.f3
  have S0 : Aside (SWK enc k w0 blk off d w) := S
  have HC : Aside _ := hcmp
  have HSW := hid hS
  have HAG := hid hag
  have HTA := hid ht
  have HSR := hid hr
  have HM1 := hid hm1
  have wm : IntKind.i64.wrap ((m : Int) - (a : Int)) = 1 := by rw [IntKind.wrap_i64]; omega
  have ha0 : (0 : Int) ≤ (a : Int) := by omega
  have hab : a < b := by omega
  have ham : a < m := by omega
  have haI : (a : Int) < (d0.size : Int) := by omega
  clear S L hcmp hag ht hS hr hm1
  go_enter hf, Try.ntmps50
  go_wp2_with fail
  go_loopg [10, 11] (b - m) (fun gx s10 s11 wr => ∃ (i j : Nat), s10 = .int .i64 i ∧ s11 = .int .i64 j ∧ j - i = gx ∧ Hid (Sea (fun q => lt d[q]! d[a]!) m b i j) ∧ Aside (SWK enc k w0 blk off d wr))
  case atStart => exact ⟨m, b, rfl, rfl, rfl, hid (Sea.start _ (by omega)), S0⟩
  case round =>
    clear S0 wm
    obtain ⟨i, j, rfl, rfl, rfl, HE, S1⟩ := hrel
    have hmi := HE.out.h1
    have hij := HE.out.h2
    have hjb := HE.out.h3
    by_cases hlt : i < j
    · have hltI : (i : Int) < (j : Int) := by omega
      obtain ⟨z, hz⟩ : ∃ z, z = (i + j) / 2 := ⟨_, rfl⟩
      have hz1 : i ≤ z := by omega
      have hz2 : z < j := by omega
      have Hzz : Hid (((i : Int) + (j : Int)) / 2 = (z : Int)) := hid (by omega)
      have wz0 : IntKind.i64.wrap ((i : Int) + (j : Int)) = (i : Int) + (j : Int) := by rw [IntKind.wrap_i64]; omega
      have wz1 : IntKind.u64.wrap ((i : Int) + (j : Int)) = (i : Int) + (j : Int) := by rw [IntKind.wrap_u64]; omega
      have wz2 : IntKind.u64.wrap (((i : Int) + (j : Int)) / 2) = ((i : Int) + (j : Int)) / 2 := by rw [IntKind.wrap_u64]; omega
      have wz3 : IntKind.i64.wrap (((i : Int) + (j : Int)) / 2) = ((i : Int) + (j : Int)) / 2 := by rw [IntKind.wrap_i64]; omega
      clear hz
      have p_z : (0 : Int) ≤ (z : Int) := by omega
      have b_z : (z : Int) < (d0.size : Int) := by omega
      go_upto_region 5 with fail
      rw [Hzz.out]
      cases hL : lt d[z]! d[a]! with
      | true =>
        have l5a := S1.out.ld R hsd P (z) (by omega)
        have l5b := S1.out.ld R hsd P (a) (by omega)
        obtain ⟨x5, hx5⟩ : ∃ x, x = d[z]! := ⟨_, rfl⟩
        obtain ⟨y5, hy5⟩ : ∃ x, x = d[a]! := ⟨_, rfl⟩
        rw [← hx5] at l5a
        rw [← hy5] at l5b
        have hc5 := S1.out.cmp HC.out hsd x5 y5
        have HX5 : Hid (d[z]! = x5 ∧ d[a]! = y5) := hid ⟨hx5.symm, hy5.symm⟩
        have hd5 : decide (cf x5 y5 < 0) = true := by rw [hx5, hy5]; exact (HAG.out _ _ (HTA.out a z (by omega) (by omega) (by omega) (by omega))).trans hL
        have hv5 : (cf x5 y5 < 0) := of_decide_eq_true hd5
        clear hx5 hy5
        go_wp2_with fail
        go_quiet_grown (first | (go_at_fn g; refine Calls.grown_of (hc5 _ _)))
        have S2 : Aside (SWK enc k w0 blk off d (grow (wr.drewN nq) osq)) := S1.out.grown nq osq
        clear l5a l5b hc5 S1
        generalize grow (wr.drewN nq) osq = w2 at S2 ⊢
        clear nq osq
        have HE2 := hid (HE.out.up ⟨hz1, hz2⟩ hL (fun q h1 h2 h3 => mono_lo HSW.out HSR.out h1 h2 (by omega) h3))
        have HZ := hid hz1
        clear HE hL wz0 wz1 wz2 wz3 hij
        go_wp2_with fail
        go_roundg (j - (z + 1))
        case measure => have := HZ.out; omega
        case rel => exact ⟨z + 1, j, by go_num, rfl, rfl, HE2, S2⟩
      | false =>
        have l5a := S1.out.ld R hsd P (z) (by omega)
        have l5b := S1.out.ld R hsd P (a) (by omega)
        obtain ⟨x5, hx5⟩ : ∃ x, x = d[z]! := ⟨_, rfl⟩
        obtain ⟨y5, hy5⟩ : ∃ x, x = d[a]! := ⟨_, rfl⟩
        rw [← hx5] at l5a
        rw [← hy5] at l5b
        have hc5 := S1.out.cmp HC.out hsd x5 y5
        have HX5 : Hid (d[z]! = x5 ∧ d[a]! = y5) := hid ⟨hx5.symm, hy5.symm⟩
        have hd5 : decide (cf x5 y5 < 0) = false := by rw [hx5, hy5]; exact (HAG.out _ _ (HTA.out a z (by omega) (by omega) (by omega) (by omega))).trans hL
        have hv5 : ¬ (cf x5 y5 < 0) := of_decide_eq_false hd5
        clear hx5 hy5
        go_wp2_with fail
        go_quiet_grown (first | (go_at_fn g; refine Calls.grown_of (hc5 _ _)))
        have S2 : Aside (SWK enc k w0 blk off d (grow (wr.drewN nq) osq)) := S1.out.grown nq osq
        clear l5a l5b hc5 S1
        generalize grow (wr.drewN nq) osq = w2 at S2 ⊢
        clear nq osq
        have HE2 := hid (HE.out.down ⟨hz1, hz2⟩ hL (fun q h1 h2 h3 => mono_hi HSW.out HSR.out (by omega) h1 h2 h3))
        have HZ := hid (And.intro hz1 hz2)
        clear HE hL wz0 wz1 wz2 wz3 hij
        go_wp2_with fail
        go_roundg (z - i)
        case measure => have := HZ.out; omega
        case rel => exact ⟨i, z, rfl, rfl, rfl, HE2, S2⟩
    · have hji : j = i := by omega
      subst hji
      have hltI : ¬ (j : Int) < (j : Int) := by omega
      obtain ⟨i1, hi1⟩ : ∃ i1, i1 = j - 1 := ⟨_, rfl⟩
      have wi1 : IntKind.i64.wrap ((j : Int) - 1) = (i1 : Int) := by rw [IntKind.wrap_i64]; omega
      have HI1 : Hid (i1 + 1 = j ∧ a ≤ i1 ∧ i1 < b) := hid (by have := HM1.out; omega)
      clear hi1 hij hlt
      go_wp2_with fail
      go_loopg [13] (i1 - a) (fun gx s13 wr => ∃ (t : Nat) (dk : Array α), s13 = .int .i64 t ∧ i1 - t = gx ∧ a ≤ t ∧ t ≤ i1 ∧ Hid (Mvr a t d dk ∧ PermIn a b d dk) ∧ Aside (SWK enc k w0 blk off dk wr))
      case atStart => exact ⟨a, d, rfl, rfl, Nat.le_refl _, HI1.out.2.1, hid ⟨Mvr.start a d, permIn_refl d a b⟩, S1⟩
      case round =>
        clear S1
        obtain ⟨t, dk, rfl, rfl, hat, hti, HK, S1⟩ := hrel
        have hds : dk.size = d.size := HK.out.1.sz
        have hib := HI1.out.2.2
        by_cases htl : t < i1
        · have htI : (t : Int) < (i1 : Int) := by omega
          go_wp2_with fail
          have S2 : Aside (SWK enc k w0 blk off (swp dk (t) (t + 1)) ((wr.drew.setCells blk (off + (t) * k) (enc dk[t + 1]!)).setCells blk (off + (t + 1) * k) (enc dk[t]!))) := S1.out.swapped R (t) (t + 1) (by omega) (by omega)
          have l44a := S1.out.ld1 R (by omega) P (t) (by omega)
          have l44b := S1.out.ld1 R (by omega) P (t + 1) (by omega)
          have s44a := S1.out.st1 R (by omega) P (t) (by omega) dk[t + 1]!
          have s44b := S1.out.st2 R (by omega) P (t) (t + 1) (by omega) (by omega) dk[t + 1]! dk[t]!
          have n44a : (enc dk[t]!).length = k := R.hk _
          have n44b : (enc dk[t + 1]!).length = k := R.hk _
          generalize enc dk[t]! = cI44 at S2 l44a s44b n44a
          generalize enc dk[t + 1]! = cJ44 at S2 l44b s44a s44b n44b
          have wt1 : IntKind.i64.wrap ((t : Int) + 1) = (t : Int) + 1 := by rw [IntKind.wrap_i64]; omega
          have e1 : ((t : Int) + 1).toNat = t + 1 := by omega
          have p0 : (0 : Int) ≤ (t : Int) := by omega
          have p1 : (0 : Int) ≤ (t : Int) + 1 := by omega
          have q0 : (t : Int) < (d0.size : Int) := by omega
          have q1 : (t : Int) + 1 < (d0.size : Int) := by omega
          have H2 : Hid (Mvr a (t + 1) d (swp dk t (t + 1)) ∧ PermIn a b d (swp dk t (t + 1))) := hid ⟨HK.out.1.step hat (by omega), permIn_trans _ _ _ _ _ HK.out.2 (swp_permIn dk a b t (t + 1) (by omega) (by omega) (by omega) (by omega) (by omega))⟩
          have HTL := hid (And.intro htl hat)
          clear S1 HK htl
          go_wp2_with fail
          go_big_region_o
          clear l44a l44b s44a s44b
          generalize (wr.drew.setCells blk (off + (t) * k) cJ44).setCells blk (off + (t + 1) * k) cI44 = w2 at S2 ⊢
          go_wp2_with fail
          go_roundg (i1 - (t + 1))
          case measure => have := HTL.out; omega
          case rel => exact ⟨t + 1, swp dk t (t + 1), by go_num, rfl, by have := HTL.out; omega, HTL.out.1, H2, S2⟩
        · have htI : ¬ (t : Int) < (i1 : Int) := by omega
          have HTE := hid (show t = i1 by omega)
          clear htl hti
          go_wp2_with fail
          refine bodyPost_end (v := .tuple #[]) (by simp [results, Try.results50, go_sem]) rfl ?_
          refine SymPost.ret rfl HK.out.2 (merge_left HSW.out (i := j) (by rw [← HM1.out]; exact HSR.out) (by have := HM1.out; omega) (by rw [← HM1.out]; exact HE.out) ?_) S1.out
          have e9 : j - 1 = t := by have := HI1.out.1; have := HTE.out; omega
          rw [e9]
          exact HK.out.1

set_option maxHeartbeats 4000000 in
set_option maxRecDepth 1000000 in
/-- One element on the right. -/
theorem sym_right (a m b : Nat) (d : Array α) (w : World) (hm1 : a + 1 < m) (hmb : b = m + 1) (hb : b ≤ d.size) (hsd : d.size = d0.size) (hl : SortedIn lt a m d) (ht : ∀ p q, a ≤ p → p < m → m ≤ q → q < b → tag d[p]! < tag d[q]!) (S : SWK enc k w0 blk off d w) :
    Calls P 50 #[.slice (some ⟨blk, off, none⟩) d0.size cap, .int .i64 a, .int .i64 m, .int .i64 b, .func (.func g) #[] cb] w (SymPost enc k w0 blk off lt a b d) := by
  have vS := run_underlying L.uS
  have mixed := L.mixed; have uS := L.uS; have aE := L.aE; have zE := L.zE; have uI := L.uI; have uU := L.uU
  have hf := L.f3
  have S0 : Aside (SWK enc k w0 blk off d w) := S
  have HC : Aside _ := hcmp
  have HSW := hid hS
  have HAG := hid hag
  have HTA := hid ht
  have HSL := hid hl
  have HMB := hid hmb
  obtain ⟨ma, hma⟩ : ∃ ma, ma = m - a := ⟨_, rfl⟩
  have wm : IntKind.i64.wrap ((m : Int) - (a : Int)) = (ma : Int) := by rw [IntKind.wrap_i64]; omega
  have hma1 : ((ma : Int) == 1) = false := beq_eq_false_iff_ne.mpr (by omega)
  have wb : IntKind.i64.wrap ((b : Int) - (m : Int)) = 1 := by rw [IntKind.wrap_i64]; omega
  have hmI : (m : Int) < (d0.size : Int) := by omega
  have hm0 : (0 : Int) ≤ (m : Int) := by omega
  have hmd : m < d.size := by omega
  have hmlb : m < b := by omega
  have ham : a < m := by omega
  clear S L hcmp hag ht hS hl hma hmb hm1
  go_enter hf, Try.ntmps50
  go_wp2_with fail
  go_loopg [14, 15] (m - a) (fun gx s10 s11 wr => ∃ (i j : Nat), s10 = .int .i64 i ∧ s11 = .int .i64 j ∧ j - i = gx ∧ Hid (Sea (fun q => !lt d[m]! d[q]!) a m i j) ∧ Aside (SWK enc k w0 blk off d wr))
  case atStart => exact ⟨a, m, rfl, rfl, rfl, hid (Sea.start _ (by omega)), S0⟩
  case round =>
    clear S0 wm wb
    obtain ⟨i, j, rfl, rfl, rfl, HE, S1⟩ := hrel
    have hmi := HE.out.h1
    have hij := HE.out.h2
    have hjb := HE.out.h3
    by_cases hlt : i < j
    · have hltI : (i : Int) < (j : Int) := by omega
      obtain ⟨z, hz⟩ : ∃ z, z = (i + j) / 2 := ⟨_, rfl⟩
      have hz1 : i ≤ z := by omega
      have hz2 : z < j := by omega
      have Hzz : Hid (((i : Int) + (j : Int)) / 2 = (z : Int)) := hid (by omega)
      have wz0 : IntKind.i64.wrap ((i : Int) + (j : Int)) = (i : Int) + (j : Int) := by rw [IntKind.wrap_i64]; omega
      have wz1 : IntKind.u64.wrap ((i : Int) + (j : Int)) = (i : Int) + (j : Int) := by rw [IntKind.wrap_u64]; omega
      have wz2 : IntKind.u64.wrap (((i : Int) + (j : Int)) / 2) = ((i : Int) + (j : Int)) / 2 := by rw [IntKind.wrap_u64]; omega
      have wz3 : IntKind.i64.wrap (((i : Int) + (j : Int)) / 2) = ((i : Int) + (j : Int)) / 2 := by rw [IntKind.wrap_i64]; omega
      clear hz
      have p_z : (0 : Int) ≤ (z : Int) := by omega
      have b_z : (z : Int) < (d0.size : Int) := by omega
      go_upto_region 17 with fail
      rw [Hzz.out]
      cases hL : lt d[m]! d[z]! with
      | true =>
        have l5a := S1.out.ld R hsd P (m) (by omega)
        have l5b := S1.out.ld R hsd P (z) (by omega)
        obtain ⟨x5, hx5⟩ : ∃ x, x = d[m]! := ⟨_, rfl⟩
        obtain ⟨y5, hy5⟩ : ∃ x, x = d[z]! := ⟨_, rfl⟩
        rw [← hx5] at l5a
        rw [← hy5] at l5b
        have hc5 := S1.out.cmp HC.out hsd x5 y5
        have HX5 : Hid (d[m]! = x5 ∧ d[z]! = y5) := hid ⟨hx5.symm, hy5.symm⟩
        have hd5 : decide (cf x5 y5 < 0) = true := by rw [hx5, hy5]; exact (HAG.out _ _ (HTA.out z m (by omega) (by omega) (by omega) (by omega))).trans hL
        have hv5 : (cf x5 y5 < 0) := of_decide_eq_true hd5
        clear hx5 hy5
        go_wp2_with fail
        go_quiet_grown (first | (go_at_fn g; refine Calls.grown_of (hc5 _ _)))
        have S2 : Aside (SWK enc k w0 blk off d (grow (wr.drewN nq) osq)) := S1.out.grown nq osq
        clear l5a l5b hc5 S1
        generalize grow (wr.drewN nq) osq = w2 at S2 ⊢
        clear nq osq
        have HE2 := hid (HE.out.down ⟨hz1, hz2⟩ (by rw [hL]; rfl) (fun q h1 h2 h3 => by
          have h4 : lt d[m]! d[z]! = true := by simpa using h3
          cases hh : lt d[m]! d[q]! with
          | true => rfl
          | false =>
            have := HSW.out.ntrans _ _ _ hh (HSL.out z q (by omega) h1 h2)
            rw [h4] at this
            cases this))
        have HZ := hid (And.intro hz1 hz2)
        clear HE hL wz0 wz1 wz2 wz3 hij
        go_wp2_with fail
        go_roundg (z - i)
        case measure => have := HZ.out; omega
        case rel => exact ⟨i, z, rfl, rfl, rfl, HE2, S2⟩
      | false =>
        have l5a := S1.out.ld R hsd P (m) (by omega)
        have l5b := S1.out.ld R hsd P (z) (by omega)
        obtain ⟨x5, hx5⟩ : ∃ x, x = d[m]! := ⟨_, rfl⟩
        obtain ⟨y5, hy5⟩ : ∃ x, x = d[z]! := ⟨_, rfl⟩
        rw [← hx5] at l5a
        rw [← hy5] at l5b
        have hc5 := S1.out.cmp HC.out hsd x5 y5
        have HX5 : Hid (d[m]! = x5 ∧ d[z]! = y5) := hid ⟨hx5.symm, hy5.symm⟩
        have hd5 : decide (cf x5 y5 < 0) = false := by rw [hx5, hy5]; exact (HAG.out _ _ (HTA.out z m (by omega) (by omega) (by omega) (by omega))).trans hL
        have hv5 : ¬ (cf x5 y5 < 0) := of_decide_eq_false hd5
        clear hx5 hy5
        go_wp2_with fail
        go_quiet_grown (first | (go_at_fn g; refine Calls.grown_of (hc5 _ _)))
        have S2 : Aside (SWK enc k w0 blk off d (grow (wr.drewN nq) osq)) := S1.out.grown nq osq
        clear l5a l5b hc5 S1
        generalize grow (wr.drewN nq) osq = w2 at S2 ⊢
        clear nq osq
        have HE2 := hid (HE.out.up ⟨hz1, hz2⟩ (by rw [hL]; rfl) (fun q h1 h2 h3 => by
          have h4 : lt d[m]! d[z]! = false := by simpa using h3
          rw [HSW.out.ntrans _ _ _ h4 (HSL.out q z h1 h2 (by omega))]
          rfl))
        have HZ := hid hz1
        clear HE hL wz0 wz1 wz2 wz3 hij
        go_wp2_with fail
        go_roundg (j - (z + 1))
        case measure => have := HZ.out; omega
        case rel => exact ⟨z + 1, j, by go_num, rfl, rfl, HE2, S2⟩
    · have hji : j = i := by omega
      subst hji
      have hltI : ¬ (j : Int) < (j : Int) := by omega
      clear hij hlt
      go_wp2_with fail
      go_loopg [17] (m - j) (fun gx s17 wr => ∃ (t : Nat) (dk : Array α), s17 = .int .i64 t ∧ t - j = gx ∧ j ≤ t ∧ t ≤ m ∧ Hid (Mvl m t d dk ∧ PermIn a b d dk) ∧ Aside (SWK enc k w0 blk off dk wr))
      case atStart => exact ⟨m, d, rfl, rfl, hjb, Nat.le_refl _, hid ⟨Mvl.start m d, permIn_refl d a b⟩, S1⟩
      case round =>
        clear S1
        obtain ⟨t, dk, rfl, rfl, hjt, htm, HK, S1⟩ := hrel
        have hds : dk.size = d.size := HK.out.1.sz
        by_cases htl : j < t
        · obtain ⟨t1, rfl⟩ : ∃ t1, t = t1 + 1 := ⟨t - 1, by omega⟩
          have htI : (j : Int) < (t1 : Int) + 1 := by omega
          go_wp2_with fail
          have S2 : Aside (SWK enc k w0 blk off (swp dk (t1 + 1) (t1)) ((wr.drew.setCells blk (off + (t1 + 1) * k) (enc dk[t1]!)).setCells blk (off + (t1) * k) (enc dk[t1 + 1]!))) := S1.out.swapped R (t1 + 1) (t1) (by omega) (by omega)
          have l44a := S1.out.ld1 R (by omega) P (t1 + 1) (by omega)
          have l44b := S1.out.ld1 R (by omega) P (t1) (by omega)
          have s44a := S1.out.st1 R (by omega) P (t1 + 1) (by omega) dk[t1]!
          have s44b := S1.out.st2 R (by omega) P (t1 + 1) (t1) (by omega) (by omega) dk[t1]! dk[t1 + 1]!
          have n44a : (enc dk[t1 + 1]!).length = k := R.hk _
          have n44b : (enc dk[t1]!).length = k := R.hk _
          generalize enc dk[t1 + 1]! = cI44 at S2 l44a s44b n44a
          generalize enc dk[t1]! = cJ44 at S2 l44b s44a s44b n44b
          have wt1 : IntKind.i64.wrap ((t1 : Int)) = (t1 : Int) := by rw [IntKind.wrap_i64]; omega
          have e1 : ((t1 : Int) + 1).toNat = t1 + 1 := by omega
          have p0 : (0 : Int) ≤ (t1 : Int) := by omega
          have p1 : (0 : Int) ≤ (t1 : Int) + 1 := by omega
          have q0 : (t1 : Int) < (d0.size : Int) := by omega
          have q1 : (t1 : Int) + 1 < (d0.size : Int) := by omega
          have H2 : Hid (Mvl m t1 d (swp dk (t1 + 1) t1) ∧ PermIn a b d (swp dk (t1 + 1) t1)) := hid ⟨HK.out.1.step htm hmd, permIn_trans _ _ _ _ _ HK.out.2 (swp_permIn dk a b (t1 + 1) t1 (by omega) (by have := HMB.out; omega) (by omega) (by have := HMB.out; omega) (by omega))⟩
          have HTL := hid (And.intro htl htm)
          clear S1 HK htl
          go_wp2_with fail
          go_big_region_o
          clear l44a l44b s44a s44b
          generalize (wr.drew.setCells blk (off + (t1 + 1) * k) cJ44).setCells blk (off + (t1) * k) cI44 = w2 at S2 ⊢
          go_wp2_with fail
          go_roundg (t1 - j)
          case measure => have := HTL.out; omega
          case rel => exact ⟨t1, swp dk (t1 + 1) t1, by go_num, rfl, by have := HTL.out; omega, by have := HTL.out; omega, H2, S2⟩
        · have htI : ¬ (j : Int) < (t : Int) := by omega
          have HTE := hid (show t = j by omega)
          clear htl hjt
          go_wp2_with fail
          refine bodyPost_end (v := .tuple #[]) (by simp [results, Try.results50, go_sem]) rfl ?_
          refine SymPost.ret rfl HK.out.2 ?_ S1.out
          rw [HMB.out]
          exact merge_right HSW.out HSL.out ⟨hmi, hjb⟩ HE.out (by have := HK.out.1; rw [HTE.out] at this; exact this)
end
end Go.Proofs.Ytgimpkbknaopcaa
