/- The library's stable sort: symMerge. No statement is proved here. -/
import Derived.Test.YtgimpkbknaopcaaStC
import Derived.Sort.LotD2
set_option linter.unusedVariables false
set_option linter.unusedSimpArgs false
namespace Go.Proofs.Ytgimpkbknaopcaa
open Go.RowKit Go.Shelf Go.Lib
open Go.Sort hiding Below
section
variable {α : Type} [Inhabited α] {P : Program}

omit [Inhabited α] in
theorem apart_t {p q r : Prop} (h : p ∧ q ∧ r) : p := h.1
theorem sym_fin {lt : α → α → Bool} {a b md s en : Nat} {d d1 d2 d3 : Array α} (hb : b ≤ d.size) (hA : a ≤ s ∧ s ≤ md ∧ md ≤ en ∧ en ≤ b ∧ SortedIn lt a s d1 ∧ SortedIn lt s md d1 ∧ SortedIn lt md en d1 ∧ SortedIn lt en b d1 ∧ ∀ p q, a ≤ p → p < md → md ≤ q → q < b → lt d1[q]! d1[p]! = false)
    (h1 : PermIn a b d d1) (h2 : PermIn a md d1 d2) (h3 : PermIn md b d2 d3) : PermIn a b d d3 ∧ (SortedIn lt a md d2 → SortedIn lt md b d3 → SortedIn lt a b d3) := by
  have hb1 : b ≤ d1.size := by rw [h1.1]; exact hb
  refine ⟨permIn_trans _ _ _ _ _ (permIn_trans _ _ _ _ _ h1 (permIn_mono d1 d2 a md a b (Nat.le_refl _) (by omega) hb1 h2)) (permIn_mono d2 d3 md b a b (by omega) (Nat.le_refl _) (by rw [h2.1]; exact hb1) h3), fun s1 s2 => ?_⟩
  exact halves (by omega) (by omega) hb1 hA.2.2.2.2.2.2.2.2 h2 s1 h3 s2
variable {k : Nat} (L : StL P k) (enc : α → List Value) (cf : α → α → Int) (lt : α → α → Bool) (tag : α → Nat) (hag : ∀ x y, tag y < tag x → ltOf cf x y = lt x y) (hS : SWO lt) (g : Nat) (cb : Array Value) (eg : ∀ args w, (callFunc g args).run P w = .ok (.enter g args) w) (blk off cap : Nat) (d0 : Array α) (w0 : World) (R : RowK enc k w0 blk off d0) (hcmp : CmpLays P g cb enc k cf blk off d0.size w0) (hsz : d0.size < 2305843009213693952)
include L hag hS eg R hcmp hsz

set_option maxHeartbeats 8000000 in
set_option maxRecDepth 1000000 in
theorem symMerge_o : ∀ (N a m b : Nat) (d : Array α) (w : World), b - a ≤ N → a < m → m < b → b ≤ d.size → d.size = d0.size → SortedIn lt a m d → SortedIn lt m b d → (∀ p q, a ≤ p → p < m → m ≤ q → q < b → tag d[p]! < tag d[q]!) → SWK enc k w0 blk off d w →
    Calls P 50 #[.slice (some ⟨blk, off, none⟩) d0.size cap, .int .i64 a, .int .i64 m, .int .i64 b, .func (.func g) #[] cb] w (SymPost enc k w0 blk off lt a b d) := by
  intro N
  induction N with
  | zero =>
    intro a m b d w hN ham hmb
    omega
  | succ N ih =>
  intro a m b d w hN ham hmb hbs hsd hl hr ht S
  by_cases c1 : m = a + 1
  · exact sym_left L enc cf lt tag hag hS g cb eg blk off cap d0 w0 R hcmp hsz a m b d w c1 hmb hbs hsd hr ht S
  by_cases c2 : b = m + 1
  · exact sym_right L enc cf lt tag hag hS g cb eg blk off cap d0 w0 R hcmp hsz a m b d w (by omega) c2 hbs hsd hl ht S
  have vS := run_underlying L.uS
  have mixed := L.mixed; have uS := L.uS; have aE := L.aE; have zE := L.zE; have uI := L.uI; have uU := L.uU
  have hf := L.f3
  have e2 := L.e2
  have e3 := L.e3
  have S0 : Aside (SWK enc k w0 blk off d w) := S
  have HC : Aside _ := hcmp
  have HL := hid L
  have HSW := hid hS
  have HAG := hid hag
  have HTA := hid ht
  have HSL := hid hl
  have HSR := hid hr
  obtain ⟨ma, hma⟩ : ∃ ma, ma = m - a := ⟨_, rfl⟩
  obtain ⟨bm, hbm⟩ : ∃ bm, bm = b - m := ⟨_, rfl⟩
  have wm : IntKind.i64.wrap ((m : Int) - (a : Int)) = (ma : Int) := by rw [IntKind.wrap_i64]; omega
  have hma1 : ((ma : Int) == 1) = false := beq_eq_false_iff_ne.mpr (by omega)
  have wb : IntKind.i64.wrap ((b : Int) - (m : Int)) = (bm : Int) := by rw [IntKind.wrap_i64]; omega
  have hbm1 : ((bm : Int) == 1) = false := beq_eq_false_iff_ne.mpr (by omega)
  obtain ⟨md, hmd⟩ : ∃ md, md = (a + b) / 2 := ⟨_, rfl⟩
  have Hmd : Hid ((((a : Int) + (b : Int)) / 2) = (md : Int)) := hid (by omega)
  have wz0 : IntKind.i64.wrap ((a : Int) + (b : Int)) = (a : Int) + (b : Int) := by rw [IntKind.wrap_i64]; omega
  have wz1 : IntKind.u64.wrap ((a : Int) + (b : Int)) = (a : Int) + (b : Int) := by rw [IntKind.wrap_u64]; omega
  have wz2 : IntKind.u64.wrap (((a : Int) + (b : Int)) / 2) = ((a : Int) + (b : Int)) / 2 := by rw [IntKind.wrap_u64]; omega
  have wz3 : IntKind.i64.wrap (((a : Int) + (b : Int)) / 2) = ((a : Int) + (b : Int)) / 2 := by rw [IntKind.wrap_i64]; omega
  obtain ⟨n, hn⟩ : ∃ n, n = md + m := ⟨_, rfl⟩
  have HMD := hid (And.intro hmd hn)
  have hmdb : md < b := by omega
  have wn : IntKind.i64.wrap ((md : Int) + (m : Int)) = (n : Int) := by rw [IntKind.wrap_i64]; omega
  clear S L hcmp hag ht hS hl hr hma hbm hmd hn
  go_enter hf, Try.ntmps50
  go_upto_region 25 with fail
  rw [Hmd.out]
  clear wz0 wz1 wz2 wz3
  go_upto_if 140 with fail
  clear wm wb wn hma1 hbm1
  go_cut [20, 21] from 25 (fun s20 s21 wx => ∃ s0 r0 : Nat, s20 = .int .i64 (s0 : Int) ∧ s21 = .int .i64 (r0 : Int) ∧ Hid (Cut a m b md n s0 r0) ∧ wx = w)
  case first =>
    by_cases hgt : md < m
    · have hgtI : (md : Int) < (m : Int) := by omega
      obtain ⟨s0, hs0⟩ : ∃ s0, s0 = n - b := ⟨_, rfl⟩
      have ws0 : IntKind.i64.wrap ((n : Int) - (b : Int)) = (s0 : Int) := by rw [IntKind.wrap_i64]; have := HMD.out; omega
      have HCU : Hid (Cut a m b md n s0 md) := hid ⟨ham, hmb, HMD.out.1, HMD.out.2, .inl ⟨hgt, hs0, rfl⟩⟩
      clear hs0 hgt
      go_wp2_with fail
      go_meet
      case rel => exact ⟨s0, md, rfl, rfl, HCU, rfl⟩
    · have hgtI : ¬ (md : Int) < (m : Int) := by omega
      have HCU : Hid (Cut a m b md n a m) := hid ⟨ham, hmb, HMD.out.1, HMD.out.2, .inr ⟨by omega, rfl, rfl⟩⟩
      clear hgt
      go_wp2_with fail
      go_meet
      case rel => exact ⟨a, m, rfl, rfl, HCU, rfl⟩
  case rest =>
    obtain ⟨s0, r0, rfl, rfl, HCU, hwc⟩ := hcut
    rw [← hwc] at S0
    clear hwc
    obtain ⟨b1, b2, b3, b4, b5, b6, b7, b8, _⟩ := HCU.out.bounds
    obtain ⟨pp, hpp⟩ : ∃ pp, pp = n - 1 := ⟨_, rfl⟩
    have hn2 : n = md + m := HMD.out.2
    have HPP := hid hpp
    have wp1 : IntKind.i64.wrap ((n : Int) - 1) = (pp : Int) := by rw [IntKind.wrap_i64]; omega
    have HN2 := hid hn2
    clear hpp hn2
    go_wp2_with fail
    clear wp1
    go_loopg [20, 21] (r0 - s0) (fun gx s20 s21 wr => ∃ (i j : Nat), s20 = .int .i64 i ∧ s21 = .int .i64 j ∧ j - i = gx ∧ Hid (Sea (pr lt d n) s0 r0 i j) ∧ Aside (SWK enc k w0 blk off d wr))
    case atStart => exact ⟨s0, r0, rfl, rfl, rfl, hid (Sea.start _ b2), S0⟩
    case round =>
      clear S0
      obtain ⟨i, j, rfl, rfl, rfl, HE, S1⟩ := hrel
      have hmi := HE.out.h1
      have hij := HE.out.h2
      have hjb := HE.out.h3
      by_cases hlt : i < j
      · have hltI : (i : Int) < (j : Int) := by omega
        obtain ⟨z, hz⟩ : ∃ z, z = (i + j) / 2 := ⟨_, rfl⟩
        have hz1 : i ≤ z := by omega
        have hz2 : z < j := by omega
        have Hzz : Hid (((i : Int) + (j : Int)) / 2 = (z : Int)) := hid (by omega)
        have wz0 : IntKind.i64.wrap ((i : Int) + (j : Int)) = (i : Int) + (j : Int) := by rw [IntKind.wrap_i64]; omega
        have wz1 : IntKind.u64.wrap ((i : Int) + (j : Int)) = (i : Int) + (j : Int) := by rw [IntKind.wrap_u64]; omega
        have wz2 : IntKind.u64.wrap (((i : Int) + (j : Int)) / 2) = ((i : Int) + (j : Int)) / 2 := by rw [IntKind.wrap_u64]; omega
        have wz3 : IntKind.i64.wrap (((i : Int) + (j : Int)) / 2) = ((i : Int) + (j : Int)) / 2 := by rw [IntKind.wrap_i64]; omega
        clear hz
        have p_z : (0 : Int) ≤ (z : Int) := by omega
        have b_z : (z : Int) < (d0.size : Int) := by omega
        obtain ⟨pc, hpc⟩ : ∃ pc, pc = n - 1 - z := ⟨_, rfl⟩
        have wpc : IntKind.i64.wrap ((pp : Int) - (z : Int)) = (pc : Int) := by rw [IntKind.wrap_i64]; have := HPP.out; have := HN2.out; omega
        have hpcb : pc < b := by have := HN2.out; omega
        have hpcm : m ≤ pc := by have := HN2.out; omega
        have HPC := hid hpc
        clear hpc
        have p_c : (0 : Int) ≤ (pc : Int) := by omega
        have b_c : (pc : Int) < (d0.size : Int) := by omega
        go_upto_region 35 with fail
        rw [Hzz.out]
        cases hL : lt d[pc]! d[z]! with
        | true =>
          have l5a := S1.out.ld R hsd P (pc) (by omega)
          have l5b := S1.out.ld R hsd P (z) (by omega)
          obtain ⟨x5, hx5⟩ : ∃ x, x = d[pc]! := ⟨_, rfl⟩
          obtain ⟨y5, hy5⟩ : ∃ x, x = d[z]! := ⟨_, rfl⟩
          rw [← hx5] at l5a
          rw [← hy5] at l5b
          have hc5 := S1.out.cmp HC.out hsd x5 y5
          have HX5 : Hid (d[pc]! = x5 ∧ d[z]! = y5) := hid ⟨hx5.symm, hy5.symm⟩
          have hd5 : decide (cf x5 y5 < 0) = true := by rw [hx5, hy5]; exact (HAG.out _ _ (HTA.out z pc (by omega) (by omega) (by omega) (by omega))).trans hL
          have hv5 : (cf x5 y5 < 0) := of_decide_eq_true hd5
          clear hx5 hy5
          go_wp2_with fail
          go_quiet_grown (first | (go_at_fn g; refine Calls.grown_of (hc5 _ _)))
          have S2 : Aside (SWK enc k w0 blk off d (grow (wr.drewN nq) osq)) := S1.out.grown nq osq
          clear l5a l5b hc5 S1
          generalize grow (wr.drewN nq) osq = w2 at S2 ⊢
          clear nq osq
          have HE2 := hid (HE.out.down ⟨hz1, hz2⟩ (by unfold pr; rw [← HPC.out, hL]; rfl) (fun q h1 h2 h3 => (pr_mono HSW.out HCU.out HSL.out HSR.out (by omega) h1 h2).2 h3))
          have HZ := hid (And.intro hz1 hz2)
          clear HE hL wz0 wz1 wz2 wz3 hij
          go_wp2_with fail
          go_roundg (z - i)
          case measure => have := HZ.out; omega
          case rel => exact ⟨i, z, rfl, rfl, rfl, HE2, S2⟩
        | false =>
          have l5a := S1.out.ld R hsd P (pc) (by omega)
          have l5b := S1.out.ld R hsd P (z) (by omega)
          obtain ⟨x5, hx5⟩ : ∃ x, x = d[pc]! := ⟨_, rfl⟩
          obtain ⟨y5, hy5⟩ : ∃ x, x = d[z]! := ⟨_, rfl⟩
          rw [← hx5] at l5a
          rw [← hy5] at l5b
          have hc5 := S1.out.cmp HC.out hsd x5 y5
          have HX5 : Hid (d[pc]! = x5 ∧ d[z]! = y5) := hid ⟨hx5.symm, hy5.symm⟩
          have hd5 : decide (cf x5 y5 < 0) = false := by rw [hx5, hy5]; exact (HAG.out _ _ (HTA.out z pc (by omega) (by omega) (by omega) (by omega))).trans hL
          have hv5 : ¬ (cf x5 y5 < 0) := of_decide_eq_false hd5
          clear hx5 hy5
          go_wp2_with fail
          go_quiet_grown (first | (go_at_fn g; refine Calls.grown_of (hc5 _ _)))
          have S2 : Aside (SWK enc k w0 blk off d (grow (wr.drewN nq) osq)) := S1.out.grown nq osq
          clear l5a l5b hc5 S1
          generalize grow (wr.drewN nq) osq = w2 at S2 ⊢
          clear nq osq
          have HE2 := hid (HE.out.up ⟨hz1, hz2⟩ (by unfold pr; rw [← HPC.out, hL]; rfl) (fun q h1 h2 h3 => (pr_mono HSW.out HCU.out HSL.out HSR.out h1 h2 (by omega)).1 h3))
          have HZ := hid hz1
          clear HE hL wz0 wz1 wz2 wz3 hij
          go_wp2_with fail
          go_roundg (j - (z + 1))
          case measure => have := HZ.out; omega
          case rel => exact ⟨z + 1, j, by go_num, rfl, rfl, HE2, S2⟩
      · have hji : i = j := by omega
        subst hji
        obtain ⟨s, hs⟩ : ∃ s, s = i := ⟨_, rfl⟩
        subst hs
        have HSE := HE
        have hltI : ¬ (s : Int) < (s : Int) := by omega
        obtain ⟨en, hen⟩ : ∃ en, en = n - s := ⟨_, rfl⟩
        have wen : IntKind.i64.wrap ((n : Int) - (s : Int)) = (en : Int) := by rw [IntKind.wrap_i64]; have := HN2.out; omega
        have HEN := hid hen
        have henb : en ≤ b := by have := HN2.out; omega
        have hmen0 : m ≤ en := by have := HN2.out; omega
        clear hij hlt hen HE
        go_upto_region 39 with fail
        clear wen hltI
        by_cases hsm' : s < m
        · by_cases hmen : m < en
          · have i1 : (s : Int) < (m : Int) := by omega
            have i2 : (m : Int) < (en : Int) := by omega
            have hro := rotate_o HL.out enc (.func (.func g) #[] cb) blk off cap s m en a b d0 d w0 wr R hsd.symm S1.out hsm' hmen (by omega) (by omega) hbs (by rw [hsd]; exact hsz)
            rw [hsd] at hro
            have HRO := hid hro
            clear hsm' hmen S1 hro
            go_upto_region 41 with (go_at_fn 56; refine HRO.out.mono ?_; rintro e w2 ⟨rfl, d1, h1, h2, h3⟩; have H1 : Hid (Rot s m (n - s) d d1) := hid (by rw [← HEN.out]; exact h1); have HP1 := hid h2; have S1 : Aside _ := h3; clear h1 h2 h3 HRO)
            have hca := cut_apart HSW.out HCU.out HSL.out HSR.out HSE.out H1.out
            rw [← HEN.out] at hca
            have HA := hid hca
            have htg := cut_tags HCU.out HSE.out H1.out HTA.out
            rw [← HEN.out] at htg
            have HTG := hid htg
            clear hca htg
            by_cases has : a < s
            · by_cases hsm : s < md
              · have i3 : (a : Int) < (s : Int) := by omega
                have i4 : (s : Int) < (md : Int) := by omega
                have HIH := hid (ih a s md d1 w2 (by have := HA.out; have := hmdb; omega) has hsm (by rw [HP1.out.1]; omega) (by rw [HP1.out.1]; exact hsd) HA.out.2.2.2.2.1 HA.out.2.2.2.2.2.1 HTG.out.1 S1.out)
                clear has hsm S1
                go_upto_region 43 with (go_at_fn 50; refine HIH.out.mono ?_; rintro e w3 ⟨rfl, d2, h1, h2, h3⟩; have HP2 := hid h1; have HT2 := hid h2; have S2 : Aside _ := h3; clear h1 h2 h3 HIH)
                have hbs2 : b ≤ d2.size := by rw [HP2.out.1, HP1.out.1]; exact hbs
                by_cases hme : md < en
                · by_cases heb : en < b
                  · have i5 : (md : Int) < (en : Int) := by omega
                    have i6 : (en : Int) < (b : Int) := by omega
                    have HIH := hid (ih md en b d2 w3 (by have := HA.out; omega) hme heb hbs2 (by rw [HP2.out.1, HP1.out.1]; exact hsd) (SortedIn.congr HA.out.2.2.2.2.2.2.1 (fun i h1 h2 => HP2.out.2.1 i (.inr h1))) (SortedIn.congr HA.out.2.2.2.2.2.2.2.1 (fun i h1 h2 => HP2.out.2.1 i (.inr (by omega)))) (fun p q h1 h2 h3 h4 => by rw [HP2.out.2.1 p (.inr h1), HP2.out.2.1 q (.inr (by omega))]; exact HTG.out.2 p q h1 h2 h3 h4) S2.out)
                    clear hme heb S2
                    go_wp2_with (go_at_fn 50; refine HIH.out.mono ?_; rintro e w4 ⟨rfl, d3, h1, h2, h3⟩; have HP3 := hid h1; have HT3 := hid h2; have S3 : Aside _ := h3; clear h1 h2 h3 HIH)
                    refine bodyPost_end (v := .tuple #[]) (by simp [results, Try.results50, go_sem]) rfl ?_
                    exact SymPost.ret rfl (sym_fin hbs HA.out HP1.out HP2.out HP3.out).1 ((sym_fin hbs HA.out HP1.out HP2.out HP3.out).2 HT2.out HT3.out) S3.out
                  · have i5 : (md : Int) < (en : Int) := by omega
                    have i6 : ¬ (en : Int) < (b : Int) := by omega
                    have hen : en = b := by have := HA.out; omega
                    obtain ⟨d3, hd3⟩ : ∃ d3, d3 = d2 := ⟨_, rfl⟩
                    have HP3 : Hid (PermIn md b d2 d3) := hid (by rw [hd3]; exact permIn_refl d2 md b)
                    have HT3 : Hid (SortedIn lt md b d3) := hid (by rw [hd3]; have h := HA.out.2.2.2.2.2.2.1; rw [hen] at h; exact SortedIn.congr h (fun i h1 h2 => HP2.out.2.1 i (.inr h1)))
                    have S3 : Aside (SWK enc k w0 blk off d3 w3) := by rw [hd3]; exact S2
                    clear hme heb hen hd3 S2
                    go_wp2_with fail
                    refine bodyPost_end (v := .tuple #[]) (by simp [results, Try.results50, go_sem]) rfl ?_
                    exact SymPost.ret rfl (sym_fin hbs HA.out HP1.out HP2.out HP3.out).1 ((sym_fin hbs HA.out HP1.out HP2.out HP3.out).2 HT2.out HT3.out) S3.out
                · have i5 : ¬ (md : Int) < (en : Int) := by omega
                  have hen : en = md := by have := HA.out; omega
                  obtain ⟨d3, hd3⟩ : ∃ d3, d3 = d2 := ⟨_, rfl⟩
                  have HP3 : Hid (PermIn md b d2 d3) := hid (by rw [hd3]; exact permIn_refl d2 md b)
                  have HT3 : Hid (SortedIn lt md b d3) := hid (by rw [hd3]; have h := HA.out.2.2.2.2.2.2.2.1; rw [hen] at h; exact SortedIn.congr h (fun i h1 h2 => HP2.out.2.1 i (.inr h1)))
                  have S3 : Aside (SWK enc k w0 blk off d3 w3) := by rw [hd3]; exact S2
                  clear hme hen hd3 S2
                  go_wp2_with fail
                  refine bodyPost_end (v := .tuple #[]) (by simp [results, Try.results50, go_sem]) rfl ?_
                  exact SymPost.ret rfl (sym_fin hbs HA.out HP1.out HP2.out HP3.out).1 ((sym_fin hbs HA.out HP1.out HP2.out HP3.out).2 HT2.out HT3.out) S3.out
              · have i3 : (a : Int) < (s : Int) := by omega
                have i4 : ¬ (s : Int) < (md : Int) := by omega
                have hen : s = md := by have := HA.out; omega
                obtain ⟨d2, hd2⟩ : ∃ d2, d2 = d1 := ⟨_, rfl⟩
                have HP2 : Hid (PermIn a md d1 d2) := hid (by rw [hd2]; exact permIn_refl d1 a md)
                have HT2 : Hid (SortedIn lt a md d2) := hid (by rw [hd2]; have h := HA.out.2.2.2.2.1; rw [hen] at h; exact h)
                obtain ⟨w3, hw3⟩ : ∃ w3, w3 = w2 := ⟨_, rfl⟩
                have S2 : Aside (SWK enc k w0 blk off d2 w3) := by rw [hd2, hw3]; exact S1
                have hbs2 : b ≤ d2.size := by rw [HP2.out.1, HP1.out.1]; exact hbs
                clear has hsm hen hd2 S1
                go_upto_region 43 with fail
                rw [← hw3]
                clear hw3
                by_cases hme : md < en
                · by_cases heb : en < b
                  · have i5 : (md : Int) < (en : Int) := by omega
                    have i6 : (en : Int) < (b : Int) := by omega
                    have HIH := hid (ih md en b d2 w3 (by have := HA.out; omega) hme heb hbs2 (by rw [HP2.out.1, HP1.out.1]; exact hsd) (SortedIn.congr HA.out.2.2.2.2.2.2.1 (fun i h1 h2 => HP2.out.2.1 i (.inr h1))) (SortedIn.congr HA.out.2.2.2.2.2.2.2.1 (fun i h1 h2 => HP2.out.2.1 i (.inr (by omega)))) (fun p q h1 h2 h3 h4 => by rw [HP2.out.2.1 p (.inr h1), HP2.out.2.1 q (.inr (by omega))]; exact HTG.out.2 p q h1 h2 h3 h4) S2.out)
                    clear hme heb S2
                    go_wp2_with (go_at_fn 50; refine HIH.out.mono ?_; rintro e w4 ⟨rfl, d3, h1, h2, h3⟩; have HP3 := hid h1; have HT3 := hid h2; have S3 : Aside _ := h3; clear h1 h2 h3 HIH)
                    refine bodyPost_end (v := .tuple #[]) (by simp [results, Try.results50, go_sem]) rfl ?_
                    exact SymPost.ret rfl (sym_fin hbs HA.out HP1.out HP2.out HP3.out).1 ((sym_fin hbs HA.out HP1.out HP2.out HP3.out).2 HT2.out HT3.out) S3.out
                  · have i5 : (md : Int) < (en : Int) := by omega
                    have i6 : ¬ (en : Int) < (b : Int) := by omega
                    have hen : en = b := by have := HA.out; omega
                    obtain ⟨d3, hd3⟩ : ∃ d3, d3 = d2 := ⟨_, rfl⟩
                    have HP3 : Hid (PermIn md b d2 d3) := hid (by rw [hd3]; exact permIn_refl d2 md b)
                    have HT3 : Hid (SortedIn lt md b d3) := hid (by rw [hd3]; have h := HA.out.2.2.2.2.2.2.1; rw [hen] at h; exact SortedIn.congr h (fun i h1 h2 => HP2.out.2.1 i (.inr h1)))
                    have S3 : Aside (SWK enc k w0 blk off d3 w3) := by rw [hd3]; exact S2
                    clear hme heb hen hd3 S2
                    go_wp2_with fail
                    refine bodyPost_end (v := .tuple #[]) (by simp [results, Try.results50, go_sem]) rfl ?_
                    exact SymPost.ret rfl (sym_fin hbs HA.out HP1.out HP2.out HP3.out).1 ((sym_fin hbs HA.out HP1.out HP2.out HP3.out).2 HT2.out HT3.out) S3.out
                · have i5 : ¬ (md : Int) < (en : Int) := by omega
                  have hen : en = md := by have := HA.out; omega
                  obtain ⟨d3, hd3⟩ : ∃ d3, d3 = d2 := ⟨_, rfl⟩
                  have HP3 : Hid (PermIn md b d2 d3) := hid (by rw [hd3]; exact permIn_refl d2 md b)
                  have HT3 : Hid (SortedIn lt md b d3) := hid (by rw [hd3]; have h := HA.out.2.2.2.2.2.2.2.1; rw [hen] at h; exact SortedIn.congr h (fun i h1 h2 => HP2.out.2.1 i (.inr h1)))
                  have S3 : Aside (SWK enc k w0 blk off d3 w3) := by rw [hd3]; exact S2
                  clear hme hen hd3 S2
                  go_wp2_with fail
                  refine bodyPost_end (v := .tuple #[]) (by simp [results, Try.results50, go_sem]) rfl ?_
                  exact SymPost.ret rfl (sym_fin hbs HA.out HP1.out HP2.out HP3.out).1 ((sym_fin hbs HA.out HP1.out HP2.out HP3.out).2 HT2.out HT3.out) S3.out
            · have i3 : ¬ (a : Int) < (s : Int) := by omega
              have hen : s = a := by have := HA.out; omega
              obtain ⟨d2, hd2⟩ : ∃ d2, d2 = d1 := ⟨_, rfl⟩
              have HP2 : Hid (PermIn a md d1 d2) := hid (by rw [hd2]; exact permIn_refl d1 a md)
              have HT2 : Hid (SortedIn lt a md d2) := hid (by rw [hd2]; have h := HA.out.2.2.2.2.2.1; rw [hen] at h; exact h)
              obtain ⟨w3, hw3⟩ : ∃ w3, w3 = w2 := ⟨_, rfl⟩
              have S2 : Aside (SWK enc k w0 blk off d2 w3) := by rw [hd2, hw3]; exact S1
              have hbs2 : b ≤ d2.size := by rw [HP2.out.1, HP1.out.1]; exact hbs
              clear has hen hd2 S1
              go_upto_region 43 with fail
              rw [← hw3]
              clear hw3
              by_cases hme : md < en
              · by_cases heb : en < b
                · have i5 : (md : Int) < (en : Int) := by omega
                  have i6 : (en : Int) < (b : Int) := by omega
                  have HIH := hid (ih md en b d2 w3 (by have := HA.out; omega) hme heb hbs2 (by rw [HP2.out.1, HP1.out.1]; exact hsd) (SortedIn.congr HA.out.2.2.2.2.2.2.1 (fun i h1 h2 => HP2.out.2.1 i (.inr h1))) (SortedIn.congr HA.out.2.2.2.2.2.2.2.1 (fun i h1 h2 => HP2.out.2.1 i (.inr (by omega)))) (fun p q h1 h2 h3 h4 => by rw [HP2.out.2.1 p (.inr h1), HP2.out.2.1 q (.inr (by omega))]; exact HTG.out.2 p q h1 h2 h3 h4) S2.out)
                  clear hme heb S2
                  go_wp2_with (go_at_fn 50; refine HIH.out.mono ?_; rintro e w4 ⟨rfl, d3, h1, h2, h3⟩; have HP3 := hid h1; have HT3 := hid h2; have S3 : Aside _ := h3; clear h1 h2 h3 HIH)
                  refine bodyPost_end (v := .tuple #[]) (by simp [results, Try.results50, go_sem]) rfl ?_
                  exact SymPost.ret rfl (sym_fin hbs HA.out HP1.out HP2.out HP3.out).1 ((sym_fin hbs HA.out HP1.out HP2.out HP3.out).2 HT2.out HT3.out) S3.out
                · have i5 : (md : Int) < (en : Int) := by omega
                  have i6 : ¬ (en : Int) < (b : Int) := by omega
                  have hen : en = b := by have := HA.out; omega
                  obtain ⟨d3, hd3⟩ : ∃ d3, d3 = d2 := ⟨_, rfl⟩
                  have HP3 : Hid (PermIn md b d2 d3) := hid (by rw [hd3]; exact permIn_refl d2 md b)
                  have HT3 : Hid (SortedIn lt md b d3) := hid (by rw [hd3]; have h := HA.out.2.2.2.2.2.2.1; rw [hen] at h; exact SortedIn.congr h (fun i h1 h2 => HP2.out.2.1 i (.inr h1)))
                  have S3 : Aside (SWK enc k w0 blk off d3 w3) := by rw [hd3]; exact S2
                  clear hme heb hen hd3 S2
                  go_wp2_with fail
                  refine bodyPost_end (v := .tuple #[]) (by simp [results, Try.results50, go_sem]) rfl ?_
                  exact SymPost.ret rfl (sym_fin hbs HA.out HP1.out HP2.out HP3.out).1 ((sym_fin hbs HA.out HP1.out HP2.out HP3.out).2 HT2.out HT3.out) S3.out
              · have i5 : ¬ (md : Int) < (en : Int) := by omega
                have hen : en = md := by have := HA.out; omega
                obtain ⟨d3, hd3⟩ : ∃ d3, d3 = d2 := ⟨_, rfl⟩
                have HP3 : Hid (PermIn md b d2 d3) := hid (by rw [hd3]; exact permIn_refl d2 md b)
                have HT3 : Hid (SortedIn lt md b d3) := hid (by rw [hd3]; have h := HA.out.2.2.2.2.2.2.2.1; rw [hen] at h; exact SortedIn.congr h (fun i h1 h2 => HP2.out.2.1 i (.inr h1)))
                have S3 : Aside (SWK enc k w0 blk off d3 w3) := by rw [hd3]; exact S2
                clear hme hen hd3 S2
                go_wp2_with fail
                refine bodyPost_end (v := .tuple #[]) (by simp [results, Try.results50, go_sem]) rfl ?_
                exact SymPost.ret rfl (sym_fin hbs HA.out HP1.out HP2.out HP3.out).1 ((sym_fin hbs HA.out HP1.out HP2.out HP3.out).2 HT2.out HT3.out) S3.out
          · have i1 : (s : Int) < (m : Int) := by omega
            have i2 : ¬ (m : Int) < (en : Int) := by omega
            have hen : n - s = m := by have := HEN.out; omega
            have H1 : Hid (Rot s m (n - s) d d) := hid (by rw [hen]; exact Rot.same' d (by omega))
            have HP1 : Hid (PermIn a b d d) := hid (permIn_refl d a b)
            obtain ⟨d1, hd1⟩ : ∃ d1, d1 = d := ⟨_, rfl⟩
            rw [← hd1] at S1
            have H1 : Hid (Rot s m (n - s) d d1) := by rw [hd1]; exact H1
            have HP1 : Hid (PermIn a b d d1) := by rw [hd1]; exact HP1
            obtain ⟨w2, hw2⟩ : ∃ w2, w2 = wr := ⟨_, rfl⟩
            rw [← hw2] at S1
            clear hsm' hmen hen hd1
            go_upto_region 41 with fail
            rw [← hw2]
            clear hw2
            have hca := cut_apart HSW.out HCU.out HSL.out HSR.out HSE.out H1.out
            rw [← HEN.out] at hca
            have HA := hid hca
            have htg := cut_tags HCU.out HSE.out H1.out HTA.out
            rw [← HEN.out] at htg
            have HTG := hid htg
            clear hca htg
            by_cases has : a < s
            · by_cases hsm : s < md
              · have i3 : (a : Int) < (s : Int) := by omega
                have i4 : (s : Int) < (md : Int) := by omega
                have HIH := hid (ih a s md d1 w2 (by have := HA.out; have := hmdb; omega) has hsm (by rw [HP1.out.1]; omega) (by rw [HP1.out.1]; exact hsd) HA.out.2.2.2.2.1 HA.out.2.2.2.2.2.1 HTG.out.1 S1.out)
                clear has hsm S1
                go_upto_region 43 with (go_at_fn 50; refine HIH.out.mono ?_; rintro e w3 ⟨rfl, d2, h1, h2, h3⟩; have HP2 := hid h1; have HT2 := hid h2; have S2 : Aside _ := h3; clear h1 h2 h3 HIH)
                have hbs2 : b ≤ d2.size := by rw [HP2.out.1, HP1.out.1]; exact hbs
                by_cases hme : md < en
                · by_cases heb : en < b
                  · have i5 : (md : Int) < (en : Int) := by omega
                    have i6 : (en : Int) < (b : Int) := by omega
                    have HIH := hid (ih md en b d2 w3 (by have := HA.out; omega) hme heb hbs2 (by rw [HP2.out.1, HP1.out.1]; exact hsd) (SortedIn.congr HA.out.2.2.2.2.2.2.1 (fun i h1 h2 => HP2.out.2.1 i (.inr h1))) (SortedIn.congr HA.out.2.2.2.2.2.2.2.1 (fun i h1 h2 => HP2.out.2.1 i (.inr (by omega)))) (fun p q h1 h2 h3 h4 => by rw [HP2.out.2.1 p (.inr h1), HP2.out.2.1 q (.inr (by omega))]; exact HTG.out.2 p q h1 h2 h3 h4) S2.out)
                    clear hme heb S2
                    go_wp2_with (go_at_fn 50; refine HIH.out.mono ?_; rintro e w4 ⟨rfl, d3, h1, h2, h3⟩; have HP3 := hid h1; have HT3 := hid h2; have S3 : Aside _ := h3; clear h1 h2 h3 HIH)
                    refine bodyPost_end (v := .tuple #[]) (by simp [results, Try.results50, go_sem]) rfl ?_
                    exact SymPost.ret rfl (sym_fin hbs HA.out HP1.out HP2.out HP3.out).1 ((sym_fin hbs HA.out HP1.out HP2.out HP3.out).2 HT2.out HT3.out) S3.out
                  · have i5 : (md : Int) < (en : Int) := by omega
                    have i6 : ¬ (en : Int) < (b : Int) := by omega
                    have hen : en = b := by have := HA.out; omega
                    obtain ⟨d3, hd3⟩ : ∃ d3, d3 = d2 := ⟨_, rfl⟩
                    have HP3 : Hid (PermIn md b d2 d3) := hid (by rw [hd3]; exact permIn_refl d2 md b)
                    have HT3 : Hid (SortedIn lt md b d3) := hid (by rw [hd3]; have h := HA.out.2.2.2.2.2.2.1; rw [hen] at h; exact SortedIn.congr h (fun i h1 h2 => HP2.out.2.1 i (.inr h1)))
                    have S3 : Aside (SWK enc k w0 blk off d3 w3) := by rw [hd3]; exact S2
                    clear hme heb hen hd3 S2
                    go_wp2_with fail
                    refine bodyPost_end (v := .tuple #[]) (by simp [results, Try.results50, go_sem]) rfl ?_
                    exact SymPost.ret rfl (sym_fin hbs HA.out HP1.out HP2.out HP3.out).1 ((sym_fin hbs HA.out HP1.out HP2.out HP3.out).2 HT2.out HT3.out) S3.out
                · have i5 : ¬ (md : Int) < (en : Int) := by omega
                  have hen : en = md := by have := HA.out; omega
                  obtain ⟨d3, hd3⟩ : ∃ d3, d3 = d2 := ⟨_, rfl⟩
                  have HP3 : Hid (PermIn md b d2 d3) := hid (by rw [hd3]; exact permIn_refl d2 md b)
                  have HT3 : Hid (SortedIn lt md b d3) := hid (by rw [hd3]; have h := HA.out.2.2.2.2.2.2.2.1; rw [hen] at h; exact SortedIn.congr h (fun i h1 h2 => HP2.out.2.1 i (.inr h1)))
                  have S3 : Aside (SWK enc k w0 blk off d3 w3) := by rw [hd3]; exact S2
                  clear hme hen hd3 S2
                  go_wp2_with fail
                  refine bodyPost_end (v := .tuple #[]) (by simp [results, Try.results50, go_sem]) rfl ?_
                  exact SymPost.ret rfl (sym_fin hbs HA.out HP1.out HP2.out HP3.out).1 ((sym_fin hbs HA.out HP1.out HP2.out HP3.out).2 HT2.out HT3.out) S3.out
              · have i3 : (a : Int) < (s : Int) := by omega
                have i4 : ¬ (s : Int) < (md : Int) := by omega
                have hen : s = md := by have := HA.out; omega
                obtain ⟨d2, hd2⟩ : ∃ d2, d2 = d1 := ⟨_, rfl⟩
                have HP2 : Hid (PermIn a md d1 d2) := hid (by rw [hd2]; exact permIn_refl d1 a md)
                have HT2 : Hid (SortedIn lt a md d2) := hid (by rw [hd2]; have h := HA.out.2.2.2.2.1; rw [hen] at h; exact h)
                obtain ⟨w3, hw3⟩ : ∃ w3, w3 = w2 := ⟨_, rfl⟩
                have S2 : Aside (SWK enc k w0 blk off d2 w3) := by rw [hd2, hw3]; exact S1
                have hbs2 : b ≤ d2.size := by rw [HP2.out.1, HP1.out.1]; exact hbs
                clear has hsm hen hd2 S1
                go_upto_region 43 with fail
                rw [← hw3]
                clear hw3
                by_cases hme : md < en
                · by_cases heb : en < b
                  · have i5 : (md : Int) < (en : Int) := by omega
                    have i6 : (en : Int) < (b : Int) := by omega
                    have HIH := hid (ih md en b d2 w3 (by have := HA.out; omega) hme heb hbs2 (by rw [HP2.out.1, HP1.out.1]; exact hsd) (SortedIn.congr HA.out.2.2.2.2.2.2.1 (fun i h1 h2 => HP2.out.2.1 i (.inr h1))) (SortedIn.congr HA.out.2.2.2.2.2.2.2.1 (fun i h1 h2 => HP2.out.2.1 i (.inr (by omega)))) (fun p q h1 h2 h3 h4 => by rw [HP2.out.2.1 p (.inr h1), HP2.out.2.1 q (.inr (by omega))]; exact HTG.out.2 p q h1 h2 h3 h4) S2.out)
                    clear hme heb S2
                    go_wp2_with (go_at_fn 50; refine HIH.out.mono ?_; rintro e w4 ⟨rfl, d3, h1, h2, h3⟩; have HP3 := hid h1; have HT3 := hid h2; have S3 : Aside _ := h3; clear h1 h2 h3 HIH)
                    refine bodyPost_end (v := .tuple #[]) (by simp [results, Try.results50, go_sem]) rfl ?_
                    exact SymPost.ret rfl (sym_fin hbs HA.out HP1.out HP2.out HP3.out).1 ((sym_fin hbs HA.out HP1.out HP2.out HP3.out).2 HT2.out HT3.out) S3.out
                  · have i5 : (md : Int) < (en : Int) := by omega
                    have i6 : ¬ (en : Int) < (b : Int) := by omega
                    have hen : en = b := by have := HA.out; omega
                    obtain ⟨d3, hd3⟩ : ∃ d3, d3 = d2 := ⟨_, rfl⟩
                    have HP3 : Hid (PermIn md b d2 d3) := hid (by rw [hd3]; exact permIn_refl d2 md b)
                    have HT3 : Hid (SortedIn lt md b d3) := hid (by rw [hd3]; have h := HA.out.2.2.2.2.2.2.1; rw [hen] at h; exact SortedIn.congr h (fun i h1 h2 => HP2.out.2.1 i (.inr h1)))
                    have S3 : Aside (SWK enc k w0 blk off d3 w3) := by rw [hd3]; exact S2
                    clear hme heb hen hd3 S2
                    go_wp2_with fail
                    refine bodyPost_end (v := .tuple #[]) (by simp [results, Try.results50, go_sem]) rfl ?_
                    exact SymPost.ret rfl (sym_fin hbs HA.out HP1.out HP2.out HP3.out).1 ((sym_fin hbs HA.out HP1.out HP2.out HP3.out).2 HT2.out HT3.out) S3.out
                · have i5 : ¬ (md : Int) < (en : Int) := by omega
                  have hen : en = md := by have := HA.out; omega
                  obtain ⟨d3, hd3⟩ : ∃ d3, d3 = d2 := ⟨_, rfl⟩
                  have HP3 : Hid (PermIn md b d2 d3) := hid (by rw [hd3]; exact permIn_refl d2 md b)
                  have HT3 : Hid (SortedIn lt md b d3) := hid (by rw [hd3]; have h := HA.out.2.2.2.2.2.2.2.1; rw [hen] at h; exact SortedIn.congr h (fun i h1 h2 => HP2.out.2.1 i (.inr h1)))
                  have S3 : Aside (SWK enc k w0 blk off d3 w3) := by rw [hd3]; exact S2
                  clear hme hen hd3 S2
                  go_wp2_with fail
                  refine bodyPost_end (v := .tuple #[]) (by simp [results, Try.results50, go_sem]) rfl ?_
                  exact SymPost.ret rfl (sym_fin hbs HA.out HP1.out HP2.out HP3.out).1 ((sym_fin hbs HA.out HP1.out HP2.out HP3.out).2 HT2.out HT3.out) S3.out
            · have i3 : ¬ (a : Int) < (s : Int) := by omega
              have hen : s = a := by have := HA.out; omega
              obtain ⟨d2, hd2⟩ : ∃ d2, d2 = d1 := ⟨_, rfl⟩
              have HP2 : Hid (PermIn a md d1 d2) := hid (by rw [hd2]; exact permIn_refl d1 a md)
              have HT2 : Hid (SortedIn lt a md d2) := hid (by rw [hd2]; have h := HA.out.2.2.2.2.2.1; rw [hen] at h; exact h)
              obtain ⟨w3, hw3⟩ : ∃ w3, w3 = w2 := ⟨_, rfl⟩
              have S2 : Aside (SWK enc k w0 blk off d2 w3) := by rw [hd2, hw3]; exact S1
              have hbs2 : b ≤ d2.size := by rw [HP2.out.1, HP1.out.1]; exact hbs
              clear has hen hd2 S1
              go_upto_region 43 with fail
              rw [← hw3]
              clear hw3
              by_cases hme : md < en
              · by_cases heb : en < b
                · have i5 : (md : Int) < (en : Int) := by omega
                  have i6 : (en : Int) < (b : Int) := by omega
                  have HIH := hid (ih md en b d2 w3 (by have := HA.out; omega) hme heb hbs2 (by rw [HP2.out.1, HP1.out.1]; exact hsd) (SortedIn.congr HA.out.2.2.2.2.2.2.1 (fun i h1 h2 => HP2.out.2.1 i (.inr h1))) (SortedIn.congr HA.out.2.2.2.2.2.2.2.1 (fun i h1 h2 => HP2.out.2.1 i (.inr (by omega)))) (fun p q h1 h2 h3 h4 => by rw [HP2.out.2.1 p (.inr h1), HP2.out.2.1 q (.inr (by omega))]; exact HTG.out.2 p q h1 h2 h3 h4) S2.out)
                  clear hme heb S2
                  go_wp2_with (go_at_fn 50; refine HIH.out.mono ?_; rintro e w4 ⟨rfl, d3, h1, h2, h3⟩; have HP3 := hid h1; have HT3 := hid h2; have S3 : Aside _ := h3; clear h1 h2 h3 HIH)
                  refine bodyPost_end (v := .tuple #[]) (by simp [results, Try.results50, go_sem]) rfl ?_
                  exact SymPost.ret rfl (sym_fin hbs HA.out HP1.out HP2.out HP3.out).1 ((sym_fin hbs HA.out HP1.out HP2.out HP3.out).2 HT2.out HT3.out) S3.out
                · have i5 : (md : Int) < (en : Int) := by omega
                  have i6 : ¬ (en : Int) < (b : Int) := by omega
                  have hen : en = b := by have := HA.out; omega
                  obtain ⟨d3, hd3⟩ : ∃ d3, d3 = d2 := ⟨_, rfl⟩
                  have HP3 : Hid (PermIn md b d2 d3) := hid (by rw [hd3]; exact permIn_refl d2 md b)
                  have HT3 : Hid (SortedIn lt md b d3) := hid (by rw [hd3]; have h := HA.out.2.2.2.2.2.2.1; rw [hen] at h; exact SortedIn.congr h (fun i h1 h2 => HP2.out.2.1 i (.inr h1)))
                  have S3 : Aside (SWK enc k w0 blk off d3 w3) := by rw [hd3]; exact S2
                  clear hme heb hen hd3 S2
                  go_wp2_with fail
                  refine bodyPost_end (v := .tuple #[]) (by simp [results, Try.results50, go_sem]) rfl ?_
                  exact SymPost.ret rfl (sym_fin hbs HA.out HP1.out HP2.out HP3.out).1 ((sym_fin hbs HA.out HP1.out HP2.out HP3.out).2 HT2.out HT3.out) S3.out
              · have i5 : ¬ (md : Int) < (en : Int) := by omega
                have hen : en = md := by have := HA.out; omega
                obtain ⟨d3, hd3⟩ : ∃ d3, d3 = d2 := ⟨_, rfl⟩
                have HP3 : Hid (PermIn md b d2 d3) := hid (by rw [hd3]; exact permIn_refl d2 md b)
                have HT3 : Hid (SortedIn lt md b d3) := hid (by rw [hd3]; have h := HA.out.2.2.2.2.2.2.2.1; rw [hen] at h; exact SortedIn.congr h (fun i h1 h2 => HP2.out.2.1 i (.inr h1)))
                have S3 : Aside (SWK enc k w0 blk off d3 w3) := by rw [hd3]; exact S2
                clear hme hen hd3 S2
                go_wp2_with fail
                refine bodyPost_end (v := .tuple #[]) (by simp [results, Try.results50, go_sem]) rfl ?_
                exact SymPost.ret rfl (sym_fin hbs HA.out HP1.out HP2.out HP3.out).1 ((sym_fin hbs HA.out HP1.out HP2.out HP3.out).2 HT2.out HT3.out) S3.out
        · have i1 : ¬ (s : Int) < (m : Int) := by omega
          have hen : s = m := by omega
          have H1 : Hid (Rot s m (n - s) d d) := hid (by rw [hen]; exact Rot.same d (by have := HEN.out; have := hmen0; omega))
          have HP1 : Hid (PermIn a b d d) := hid (permIn_refl d a b)
          obtain ⟨d1, hd1⟩ : ∃ d1, d1 = d := ⟨_, rfl⟩
          rw [← hd1] at S1
          have H1 : Hid (Rot s m (n - s) d d1) := by rw [hd1]; exact H1
          have HP1 : Hid (PermIn a b d d1) := by rw [hd1]; exact HP1
          obtain ⟨w2, hw2⟩ : ∃ w2, w2 = wr := ⟨_, rfl⟩
          rw [← hw2] at S1
          clear hsm' hen hd1
          go_upto_region 41 with fail
          rw [← hw2]
          clear hw2
          have hca := cut_apart HSW.out HCU.out HSL.out HSR.out HSE.out H1.out
          rw [← HEN.out] at hca
          have HA := hid hca
          have htg := cut_tags HCU.out HSE.out H1.out HTA.out
          rw [← HEN.out] at htg
          have HTG := hid htg
          clear hca htg
          by_cases has : a < s
          · by_cases hsm : s < md
            · have i3 : (a : Int) < (s : Int) := by omega
              have i4 : (s : Int) < (md : Int) := by omega
              have HIH := hid (ih a s md d1 w2 (by have := HA.out; have := hmdb; omega) has hsm (by rw [HP1.out.1]; omega) (by rw [HP1.out.1]; exact hsd) HA.out.2.2.2.2.1 HA.out.2.2.2.2.2.1 HTG.out.1 S1.out)
              clear has hsm S1
              go_upto_region 43 with (go_at_fn 50; refine HIH.out.mono ?_; rintro e w3 ⟨rfl, d2, h1, h2, h3⟩; have HP2 := hid h1; have HT2 := hid h2; have S2 : Aside _ := h3; clear h1 h2 h3 HIH)
              have hbs2 : b ≤ d2.size := by rw [HP2.out.1, HP1.out.1]; exact hbs
              by_cases hme : md < en
              · by_cases heb : en < b
                · have i5 : (md : Int) < (en : Int) := by omega
                  have i6 : (en : Int) < (b : Int) := by omega
                  have HIH := hid (ih md en b d2 w3 (by have := HA.out; omega) hme heb hbs2 (by rw [HP2.out.1, HP1.out.1]; exact hsd) (SortedIn.congr HA.out.2.2.2.2.2.2.1 (fun i h1 h2 => HP2.out.2.1 i (.inr h1))) (SortedIn.congr HA.out.2.2.2.2.2.2.2.1 (fun i h1 h2 => HP2.out.2.1 i (.inr (by omega)))) (fun p q h1 h2 h3 h4 => by rw [HP2.out.2.1 p (.inr h1), HP2.out.2.1 q (.inr (by omega))]; exact HTG.out.2 p q h1 h2 h3 h4) S2.out)
                  clear hme heb S2
                  go_wp2_with (go_at_fn 50; refine HIH.out.mono ?_; rintro e w4 ⟨rfl, d3, h1, h2, h3⟩; have HP3 := hid h1; have HT3 := hid h2; have S3 : Aside _ := h3; clear h1 h2 h3 HIH)
                  refine bodyPost_end (v := .tuple #[]) (by simp [results, Try.results50, go_sem]) rfl ?_
                  exact SymPost.ret rfl (sym_fin hbs HA.out HP1.out HP2.out HP3.out).1 ((sym_fin hbs HA.out HP1.out HP2.out HP3.out).2 HT2.out HT3.out) S3.out
                · have i5 : (md : Int) < (en : Int) := by omega
                  have i6 : ¬ (en : Int) < (b : Int) := by omega
                  have hen : en = b := by have := HA.out; omega
                  obtain ⟨d3, hd3⟩ : ∃ d3, d3 = d2 := ⟨_, rfl⟩
                  have HP3 : Hid (PermIn md b d2 d3) := hid (by rw [hd3]; exact permIn_refl d2 md b)
                  have HT3 : Hid (SortedIn lt md b d3) := hid (by rw [hd3]; have h := HA.out.2.2.2.2.2.2.1; rw [hen] at h; exact SortedIn.congr h (fun i h1 h2 => HP2.out.2.1 i (.inr h1)))
                  have S3 : Aside (SWK enc k w0 blk off d3 w3) := by rw [hd3]; exact S2
                  clear hme heb hen hd3 S2
                  go_wp2_with fail
                  refine bodyPost_end (v := .tuple #[]) (by simp [results, Try.results50, go_sem]) rfl ?_
                  exact SymPost.ret rfl (sym_fin hbs HA.out HP1.out HP2.out HP3.out).1 ((sym_fin hbs HA.out HP1.out HP2.out HP3.out).2 HT2.out HT3.out) S3.out
              · have i5 : ¬ (md : Int) < (en : Int) := by omega
                have hen : en = md := by have := HA.out; omega
                obtain ⟨d3, hd3⟩ : ∃ d3, d3 = d2 := ⟨_, rfl⟩
                have HP3 : Hid (PermIn md b d2 d3) := hid (by rw [hd3]; exact permIn_refl d2 md b)
                have HT3 : Hid (SortedIn lt md b d3) := hid (by rw [hd3]; have h := HA.out.2.2.2.2.2.2.2.1; rw [hen] at h; exact SortedIn.congr h (fun i h1 h2 => HP2.out.2.1 i (.inr h1)))
                have S3 : Aside (SWK enc k w0 blk off d3 w3) := by rw [hd3]; exact S2
                clear hme hen hd3 S2
                go_wp2_with fail
                refine bodyPost_end (v := .tuple #[]) (by simp [results, Try.results50, go_sem]) rfl ?_
                exact SymPost.ret rfl (sym_fin hbs HA.out HP1.out HP2.out HP3.out).1 ((sym_fin hbs HA.out HP1.out HP2.out HP3.out).2 HT2.out HT3.out) S3.out
            · have i3 : (a : Int) < (s : Int) := by omega
              have i4 : ¬ (s : Int) < (md : Int) := by omega
              have hen : s = md := by have := HA.out; omega
              obtain ⟨d2, hd2⟩ : ∃ d2, d2 = d1 := ⟨_, rfl⟩
              have HP2 : Hid (PermIn a md d1 d2) := hid (by rw [hd2]; exact permIn_refl d1 a md)
              have HT2 : Hid (SortedIn lt a md d2) := hid (by rw [hd2]; have h := HA.out.2.2.2.2.1; rw [hen] at h; exact h)
              obtain ⟨w3, hw3⟩ : ∃ w3, w3 = w2 := ⟨_, rfl⟩
              have S2 : Aside (SWK enc k w0 blk off d2 w3) := by rw [hd2, hw3]; exact S1
              have hbs2 : b ≤ d2.size := by rw [HP2.out.1, HP1.out.1]; exact hbs
              clear has hsm hen hd2 S1
              go_upto_region 43 with fail
              rw [← hw3]
              clear hw3
              by_cases hme : md < en
              · by_cases heb : en < b
                · have i5 : (md : Int) < (en : Int) := by omega
                  have i6 : (en : Int) < (b : Int) := by omega
                  have HIH := hid (ih md en b d2 w3 (by have := HA.out; omega) hme heb hbs2 (by rw [HP2.out.1, HP1.out.1]; exact hsd) (SortedIn.congr HA.out.2.2.2.2.2.2.1 (fun i h1 h2 => HP2.out.2.1 i (.inr h1))) (SortedIn.congr HA.out.2.2.2.2.2.2.2.1 (fun i h1 h2 => HP2.out.2.1 i (.inr (by omega)))) (fun p q h1 h2 h3 h4 => by rw [HP2.out.2.1 p (.inr h1), HP2.out.2.1 q (.inr (by omega))]; exact HTG.out.2 p q h1 h2 h3 h4) S2.out)
                  clear hme heb S2
                  go_wp2_with (go_at_fn 50; refine HIH.out.mono ?_; rintro e w4 ⟨rfl, d3, h1, h2, h3⟩; have HP3 := hid h1; have HT3 := hid h2; have S3 : Aside _ := h3; clear h1 h2 h3 HIH)
                  refine bodyPost_end (v := .tuple #[]) (by simp [results, Try.results50, go_sem]) rfl ?_
                  exact SymPost.ret rfl (sym_fin hbs HA.out HP1.out HP2.out HP3.out).1 ((sym_fin hbs HA.out HP1.out HP2.out HP3.out).2 HT2.out HT3.out) S3.out
                · have i5 : (md : Int) < (en : Int) := by omega
                  have i6 : ¬ (en : Int) < (b : Int) := by omega
                  have hen : en = b := by have := HA.out; omega
                  obtain ⟨d3, hd3⟩ : ∃ d3, d3 = d2 := ⟨_, rfl⟩
                  have HP3 : Hid (PermIn md b d2 d3) := hid (by rw [hd3]; exact permIn_refl d2 md b)
                  have HT3 : Hid (SortedIn lt md b d3) := hid (by rw [hd3]; have h := HA.out.2.2.2.2.2.2.1; rw [hen] at h; exact SortedIn.congr h (fun i h1 h2 => HP2.out.2.1 i (.inr h1)))
                  have S3 : Aside (SWK enc k w0 blk off d3 w3) := by rw [hd3]; exact S2
                  clear hme heb hen hd3 S2
                  go_wp2_with fail
                  refine bodyPost_end (v := .tuple #[]) (by simp [results, Try.results50, go_sem]) rfl ?_
                  exact SymPost.ret rfl (sym_fin hbs HA.out HP1.out HP2.out HP3.out).1 ((sym_fin hbs HA.out HP1.out HP2.out HP3.out).2 HT2.out HT3.out) S3.out
              · have i5 : ¬ (md : Int) < (en : Int) := by omega
                have hen : en = md := by have := HA.out; omega
                obtain ⟨d3, hd3⟩ : ∃ d3, d3 = d2 := ⟨_, rfl⟩
                have HP3 : Hid (PermIn md b d2 d3) := hid (by rw [hd3]; exact permIn_refl d2 md b)
                have HT3 : Hid (SortedIn lt md b d3) := hid (by rw [hd3]; have h := HA.out.2.2.2.2.2.2.2.1; rw [hen] at h; exact SortedIn.congr h (fun i h1 h2 => HP2.out.2.1 i (.inr h1)))
                have S3 : Aside (SWK enc k w0 blk off d3 w3) := by rw [hd3]; exact S2
                clear hme hen hd3 S2
                go_wp2_with fail
                refine bodyPost_end (v := .tuple #[]) (by simp [results, Try.results50, go_sem]) rfl ?_
                exact SymPost.ret rfl (sym_fin hbs HA.out HP1.out HP2.out HP3.out).1 ((sym_fin hbs HA.out HP1.out HP2.out HP3.out).2 HT2.out HT3.out) S3.out
          · have i3 : ¬ (a : Int) < (s : Int) := by omega
            have hen : s = a := by have := HA.out; omega
            obtain ⟨d2, hd2⟩ : ∃ d2, d2 = d1 := ⟨_, rfl⟩
            have HP2 : Hid (PermIn a md d1 d2) := hid (by rw [hd2]; exact permIn_refl d1 a md)
            have HT2 : Hid (SortedIn lt a md d2) := hid (by rw [hd2]; have h := HA.out.2.2.2.2.2.1; rw [hen] at h; exact h)
            obtain ⟨w3, hw3⟩ : ∃ w3, w3 = w2 := ⟨_, rfl⟩
            have S2 : Aside (SWK enc k w0 blk off d2 w3) := by rw [hd2, hw3]; exact S1
            have hbs2 : b ≤ d2.size := by rw [HP2.out.1, HP1.out.1]; exact hbs
            clear has hen hd2 S1
            go_upto_region 43 with fail
            rw [← hw3]
            clear hw3
            by_cases hme : md < en
            · by_cases heb : en < b
              · have i5 : (md : Int) < (en : Int) := by omega
                have i6 : (en : Int) < (b : Int) := by omega
                have HIH := hid (ih md en b d2 w3 (by have := HA.out; omega) hme heb hbs2 (by rw [HP2.out.1, HP1.out.1]; exact hsd) (SortedIn.congr HA.out.2.2.2.2.2.2.1 (fun i h1 h2 => HP2.out.2.1 i (.inr h1))) (SortedIn.congr HA.out.2.2.2.2.2.2.2.1 (fun i h1 h2 => HP2.out.2.1 i (.inr (by omega)))) (fun p q h1 h2 h3 h4 => by rw [HP2.out.2.1 p (.inr h1), HP2.out.2.1 q (.inr (by omega))]; exact HTG.out.2 p q h1 h2 h3 h4) S2.out)
                clear hme heb S2
                go_wp2_with (go_at_fn 50; refine HIH.out.mono ?_; rintro e w4 ⟨rfl, d3, h1, h2, h3⟩; have HP3 := hid h1; have HT3 := hid h2; have S3 : Aside _ := h3; clear h1 h2 h3 HIH)
                refine bodyPost_end (v := .tuple #[]) (by simp [results, Try.results50, go_sem]) rfl ?_
                exact SymPost.ret rfl (sym_fin hbs HA.out HP1.out HP2.out HP3.out).1 ((sym_fin hbs HA.out HP1.out HP2.out HP3.out).2 HT2.out HT3.out) S3.out
              · have i5 : (md : Int) < (en : Int) := by omega
                have i6 : ¬ (en : Int) < (b : Int) := by omega
                have hen : en = b := by have := HA.out; omega
                obtain ⟨d3, hd3⟩ : ∃ d3, d3 = d2 := ⟨_, rfl⟩
                have HP3 : Hid (PermIn md b d2 d3) := hid (by rw [hd3]; exact permIn_refl d2 md b)
                have HT3 : Hid (SortedIn lt md b d3) := hid (by rw [hd3]; have h := HA.out.2.2.2.2.2.2.1; rw [hen] at h; exact SortedIn.congr h (fun i h1 h2 => HP2.out.2.1 i (.inr h1)))
                have S3 : Aside (SWK enc k w0 blk off d3 w3) := by rw [hd3]; exact S2
                clear hme heb hen hd3 S2
                go_wp2_with fail
                refine bodyPost_end (v := .tuple #[]) (by simp [results, Try.results50, go_sem]) rfl ?_
                exact SymPost.ret rfl (sym_fin hbs HA.out HP1.out HP2.out HP3.out).1 ((sym_fin hbs HA.out HP1.out HP2.out HP3.out).2 HT2.out HT3.out) S3.out
            · have i5 : ¬ (md : Int) < (en : Int) := by omega
              have hen : en = md := by have := HA.out; omega
              obtain ⟨d3, hd3⟩ : ∃ d3, d3 = d2 := ⟨_, rfl⟩
              have HP3 : Hid (PermIn md b d2 d3) := hid (by rw [hd3]; exact permIn_refl d2 md b)
              have HT3 : Hid (SortedIn lt md b d3) := hid (by rw [hd3]; have h := HA.out.2.2.2.2.2.2.2.1; rw [hen] at h; exact SortedIn.congr h (fun i h1 h2 => HP2.out.2.1 i (.inr h1)))
              have S3 : Aside (SWK enc k w0 blk off d3 w3) := by rw [hd3]; exact S2
              clear hme hen hd3 S2
              go_wp2_with fail
              refine bodyPost_end (v := .tuple #[]) (by simp [results, Try.results50, go_sem]) rfl ?_
              exact SymPost.ret rfl (sym_fin hbs HA.out HP1.out HP2.out HP3.out).1 ((sym_fin hbs HA.out HP1.out HP2.out HP3.out).2 HT2.out HT3.out) S3.out
end
end Go.Proofs.Ytgimpkbknaopcaa
