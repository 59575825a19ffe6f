/- The library's stable sort: swapRange and rotate. No statement is proved here. -/
import Derived.Test.YtgimpkbknaopcaaStA
import Derived.Test.YtgimpkbknaopcaaProg
import Derived.Test.YtgimpkbknaopcaaRow
import Derived.BigRegion
import Derived.Shelf.Lay
import Derived.Deep.LoopGhost
import Derived.Shelf.SlSortCmp.QuietGrown
import Derived.Shelf.SlSortCmp.KitK
import Derived.Sort.WalkB2
set_option linter.unusedVariables false
set_option linter.unusedSimpArgs false
namespace Go.Proofs.Ytgimpkbknaopcaa
open Go.RowKit Go.Shelf Go.Lib
open Go.Sort hiding Below
section
variable {α : Type} [Inhabited α] {P : Program}

/-- A program that holds the stable sort over elements of k cells. -/
structure StL (P : Program) (k : Nat) : Prop where
  mixed : P.follows .mixedOrders = true
  uS : P.underlying 28 = some (.slice 30)
  aE : ∀ w, (isAgg 30).run P w = .ok true w
  zE : ∀ w, (Go.sizeOf 30).run P w = .ok k w
  uI : P.underlying 3 = some (.int .i64)
  uU : P.underlying 73 = some (.int .u64)
  f1 : P.funcs[58]? = some Try.f58
  e1 : ∀ args w, (callFunc 58 args).run P w = .ok (.enter 58 args) w
  f2 : P.funcs[56]? = some Try.f56
  e2 : ∀ args w, (callFunc 56 args).run P w = .ok (.enter 56 args) w
  f3 : P.funcs[50]? = some Try.f50
  e3 : ∀ args w, (callFunc 50 args).run P w = .ok (.enter 50 args) w

set_option maxHeartbeats 4000000 in
set_option maxRecDepth 1000000 in
theorem swapRange_o {k : Nat} (L : StL P k)
    (enc : α → List Value) (cmp : Value) (blk off cap a b n lo hi : Nat) (d0 d : Array α) (w0 w : World) (R : RowK enc k w0 blk off d0) (hs : d0.size = d.size) (S : SWK enc k w0 blk off d w)
    (hab : a + n ≤ b) (hb : b + n ≤ hi) (hla : lo ≤ a) (hhi : hi ≤ d.size) (hsz : d.size < 2305843009213693952) :
    Calls P 58 #[.slice (some ⟨blk, off, none⟩) d.size cap, .int .i64 a, .int .i64 b, .int .i64 n, cmp] w fun e w' => e = .returned (.tuple #[]) ∧ ∃ d', SwR a b n d d' ∧ PermIn lo hi d d' ∧ SWK enc k w0 blk off d' w' := by
  have vS := run_underlying L.uS
  have mixed := L.mixed; have uS := L.uS; have aE := L.aE; have zE := L.zE
  have hf := L.f1
  have S0 : Aside (SWK enc k w0 blk off d w) := S
  clear S L
  go_enter hf, Try.ntmps58
  go_wp2
  go_loopg [10] n (fun gx s10 wr => ∃ (i : Nat) (dk : Array α), s10 = .int .i64 i ∧ i ≤ n ∧ n - i = gx ∧ Hid (SwR a b i d dk ∧ PermIn lo hi d dk) ∧ Aside (SWK enc k w0 blk off dk wr))
  case atStart => exact ⟨0, d, rfl, Nat.zero_le _, rfl, hid ⟨SwR.zero a b d, permIn_refl d lo hi⟩, S0⟩
  case round =>
    clear S0
    obtain ⟨i, dk, rfl, hi', rfl, HK, S1⟩ := hrel
    have hds : dk.size = d.size := HK.out.1.sz
    by_cases hlt : i < n
    · have hltI : (i : Int) < (n : Int) := by omega
      go_wp2_with fail
      have S2 : Aside (SWK enc k w0 blk off (swp dk (a + i) (b + i)) ((wr.drew.setCells blk (off + (a + i) * k) (enc dk[b + i]!)).setCells blk (off + (b + i) * k) (enc dk[a + i]!))) := S1.out.swapped R (a + i) (b + i) (by omega) (by omega)
      have l44a := S1.out.ld1 R (by omega) P (a + i) (by omega)
      have l44b := S1.out.ld1 R (by omega) P (b + i) (by omega)
      have s44a := S1.out.st1 R (by omega) P (a + i) (by omega) dk[b + i]!
      have s44b := S1.out.st2 R (by omega) P (a + i) (b + i) (by omega) (by omega) dk[b + i]! dk[a + i]!
      have n44a : (enc dk[a + i]!).length = k := R.hk _
      have n44b : (enc dk[b + i]!).length = k := R.hk _
      generalize enc dk[a + i]! = cI44 at S2 l44a s44b n44a
      generalize enc dk[b + i]! = cJ44 at S2 l44b s44a s44b n44b
      have wa : IntKind.i64.wrap ((a : Int) + (i : Int)) = (a : Int) + (i : Int) := by rw [IntKind.wrap_i64]; omega
      have wb : IntKind.i64.wrap ((b : Int) + (i : Int)) = (b : Int) + (i : Int) := by rw [IntKind.wrap_i64]; omega
      have ea44 : ((a : Int) + (i : Int)).toNat = a + i := by omega
      have pa44 : (0 : Int) ≤ (a : Int) + (i : Int) := by omega
      have ba44 : (a : Int) + (i : Int) < (d.size : Int) := by omega
      have eb44 : ((b : Int) + (i : Int)).toNat = b + i := by omega
      have pb44 : (0 : Int) ≤ (b : Int) + (i : Int) := by omega
      have bb44 : (b : Int) + (i : Int) < (d.size : Int) := by omega
      have H2 : Hid (SwR a b (i + 1) d (swp dk (a + i) (b + i)) ∧ PermIn lo hi d (swp dk (a + i) (b + i))) := hid ⟨HK.out.1.step (by omega) (by omega), permIn_trans _ _ _ _ _ HK.out.2 (swp_permIn dk lo hi (a + i) (b + i) (by omega) (by omega) (by omega) (by omega) (by omega))⟩
      have HLT := hid hlt
      clear S1 HK
      go_wp2_with fail
      go_big_region_o
      clear l44a l44b s44a s44b
      generalize (wr.drew.setCells blk (off + (a + i) * k) cJ44).setCells blk (off + (b + i) * k) cI44 = w2 at S2 ⊢
      go_wp2
      go_roundg (n - (i + 1))
      case measure => have := HLT.out; omega
      case rel => exact ⟨i + 1, swp dk (a + i) (b + i), by simp, HLT.out, rfl, H2, S2⟩
    · have hin : i = n := by omega
      have hltI : ¬ (i : Int) < (n : Int) := by omega
      have HKN : Hid (SwR a b n d dk ∧ PermIn lo hi d dk) := by rw [← hin]; exact HK
      clear hin hi' hlt HK
      go_wp2
      go_end0
      exact ⟨rfl, dk, HKN.out.1, HKN.out.2, S1.out⟩

set_option maxHeartbeats 4000000 in
set_option maxRecDepth 1000000 in
theorem rotate_o {k : Nat} (L : StL P k)
    (enc : α → List Value) (cmp : Value) (blk off cap a m b lo hi : Nat) (d0 d : Array α) (w0 w : World) (R : RowK enc k w0 blk off d0) (hs : d0.size = d.size) (S : SWK enc k w0 blk off d w)
    (ham : a < m) (hmb : m < b) (hla : lo ≤ a) (hbh : b ≤ hi) (hhi : hi ≤ d.size) (hsz : d.size < 2305843009213693952) :
    Calls P 56 #[.slice (some ⟨blk, off, none⟩) d.size cap, .int .i64 a, .int .i64 m, .int .i64 b, cmp] w fun e w' => e = .returned (.tuple #[]) ∧ ∃ d', Rot a m b d d' ∧ PermIn lo hi d d' ∧ SWK enc k w0 blk off d' w' := by
  have hf := L.f2
  have e1 := L.e1
  have S0 : Aside (SWK enc k w0 blk off d w) := S
  have HL := hid L
  clear S L
  obtain ⟨i0, hi0⟩ : ∃ i0, i0 = m - a := ⟨_, rfl⟩
  obtain ⟨j0, hj0⟩ : ∃ j0, j0 = b - m := ⟨_, rfl⟩
  have wi : IntKind.i64.wrap ((m : Int) - (a : Int)) = (i0 : Int) := by rw [IntKind.wrap_i64]; omega
  have wj : IntKind.i64.wrap ((b : Int) - (m : Int)) = (j0 : Int) := by rw [IntKind.wrap_i64]; omega
  have HIJ := hid (And.intro hi0 hj0)
  clear hi0 hj0
  go_enter hf, Try.ntmps56
  go_wp2_with fail
  go_loopg [10, 11] (i0 + j0) (fun gx s10 s11 wr => ∃ (i j : Nat) (dk : Array α), s10 = .int .i64 i ∧ s11 = .int .i64 j ∧ i + j = gx ∧ Hid (1 ≤ i ∧ 1 ≤ j ∧ i ≤ i0 ∧ j ≤ j0 ∧ dk.size = d.size) ∧ Hid (∀ d', Rot (m - i) m (m + j) dk d' → Rot a m b d d') ∧ Hid (PermIn lo hi d dk) ∧ Aside (SWK enc k w0 blk off dk wr))
  case atStart => exact ⟨i0, j0, d, rfl, rfl, rfl, hid (by have := HIJ.out; omega), hid (fun d' h => by have := HIJ.out; rw [show m - i0 = a by omega, show m + j0 = b by omega] at h; exact h), hid (permIn_refl d lo hi), S0⟩
  case round =>
    clear S0 wi wj
    obtain ⟨i, j, dk, rfl, rfl, rfl, HB, HR, HP, S1⟩ := hrel
    obtain ⟨x, hx⟩ : ∃ x, x = m - i := ⟨_, rfl⟩
    have wx : IntKind.i64.wrap ((m : Int) - (i : Int)) = (x : Int) := by rw [IntKind.wrap_i64]; have := HB.out; have := HIJ.out; omega
    by_cases hij : i = j
    · subst hij
      have hc := swapRange_o HL.out enc cmp blk off cap x m i lo hi d0 dk w0 wr R (by have := HB.out.2.2.2.2; omega) S1.out (by have := HB.out; have := HIJ.out; omega) (by have := HB.out; have := HIJ.out; omega) (by have := HB.out; have := HIJ.out; omega) (by rw [HB.out.2.2.2.2]; exact hhi) (by rw [HB.out.2.2.2.2]; exact hsz)
      rw [HB.out.2.2.2.2] at hc
      have HC := hid hc
      have HX := hid hx
      clear hc S1 hx
      go_wp2_with (go_at_fn 58; refine HC.out.mono ?_; rintro e w2 ⟨rfl, d', h1, h2, h3⟩; have H1 := hid h1; have H2 := hid h2; have H3 : Aside (SWK enc k w0 blk off d' w2) := h3; clear h1 h2 h3)
      go_end0
      exact ⟨rfl, d', HR.out d' (Rot.eq (by have := HB.out; have := HIJ.out; omega) (by rw [← HX.out]; exact H1.out)), permIn_trans _ _ _ _ _ HP.out H2.out, H3.out⟩
    · have hijI : ¬ (i : Int) = (j : Int) := by omega
      by_cases hgt : j < i
      · have hgtI : (j : Int) < (i : Int) := by omega
        obtain ⟨i2, hi2⟩ : ∃ i2, i2 = i - j := ⟨_, rfl⟩
        have wi2 : IntKind.i64.wrap ((i : Int) - (j : Int)) = (i2 : Int) := by rw [IntKind.wrap_i64]; have := HB.out; have := HIJ.out; omega
        have hc := swapRange_o HL.out enc cmp blk off cap x m j lo hi d0 dk w0 wr R (by have := HB.out.2.2.2.2; omega) S1.out (by have := HB.out; have := HIJ.out; omega) (by have := HB.out; have := HIJ.out; omega) (by have := HB.out; have := HIJ.out; omega) (by rw [HB.out.2.2.2.2]; exact hhi) (by rw [HB.out.2.2.2.2]; exact hsz)
        rw [HB.out.2.2.2.2] at hc
        have HC := hid hc
        have HX := hid (And.intro hx (And.intro hi2 hgt))
        clear hc S1 hx hi2 hgt hij
        go_wp2_with (go_at_fn 58; refine HC.out.mono ?_; rintro e w2 ⟨rfl, d', h1, h2, h3⟩; have H1 := hid h1; have H2 := hid h2; have H3 : Aside (SWK enc k w0 blk off d' w2) := h3; clear h1 h2 h3)
        go_roundg (i2 + j)
        case measure => have := HX.out; have := HB.out; omega
        case rel => exact ⟨i2, j, d', rfl, rfl, rfl, hid (by have := HX.out; have := HB.out; have := H1.out.sz; omega), hid (fun d2 h => HR.out d2 (Rot.gt (by have := HB.out; have := HIJ.out; omega) HX.out.2.2 (by rw [← HX.out.1]; exact H1.out) (by rw [← HX.out.2.1]; exact h))), hid (permIn_trans _ _ _ _ _ HP.out H2.out), H3⟩
      · have hgtI : ¬ (j : Int) < (i : Int) := by omega
        obtain ⟨j2, hj2⟩ : ∃ j2, j2 = j - i := ⟨_, rfl⟩
        obtain ⟨y, hy⟩ : ∃ y, y = m + j - i := ⟨_, rfl⟩
        have wj2 : IntKind.i64.wrap ((j : Int) - (i : Int)) = (j2 : Int) := by rw [IntKind.wrap_i64]; have := HB.out; have := HIJ.out; omega
        have wy0 : IntKind.i64.wrap ((m : Int) + (j : Int)) = (m : Int) + (j : Int) := by rw [IntKind.wrap_i64]; have := HB.out; have := HIJ.out; omega
        have wy : IntKind.i64.wrap ((m : Int) + (j : Int) - (i : Int)) = (y : Int) := by rw [IntKind.wrap_i64]; have := HB.out; have := HIJ.out; omega
        have hc := swapRange_o HL.out enc cmp blk off cap x y i lo hi d0 dk w0 wr R (by have := HB.out.2.2.2.2; omega) S1.out (by have := HB.out; have := HIJ.out; omega) (by have := HB.out; have := HIJ.out; omega) (by have := HB.out; have := HIJ.out; omega) (by rw [HB.out.2.2.2.2]; exact hhi) (by rw [HB.out.2.2.2.2]; exact hsz)
        rw [HB.out.2.2.2.2] at hc
        have HC := hid hc
        have HX := hid (And.intro hx (And.intro hj2 (And.intro hy (show i < j by omega))))
        clear hc S1 hx hj2 hy hgt hij
        go_wp2_with (go_at_fn 58; refine HC.out.mono ?_; rintro e w2 ⟨rfl, d', h1, h2, h3⟩; have H1 := hid h1; have H2 := hid h2; have H3 : Aside (SWK enc k w0 blk off d' w2) := h3; clear h1 h2 h3)
        go_roundg (i + j2)
        case measure => have := HX.out; have := HB.out; omega
        case rel => exact ⟨i, j2, d', rfl, rfl, rfl, hid (by have := HX.out; have := HB.out; have := H1.out.sz; omega), hid (fun d2 h => HR.out d2 (Rot.less (by have := HB.out; have := HIJ.out; omega) HX.out.2.2.2 (by rw [← HX.out.1, ← HX.out.2.2.1]; exact H1.out) (by rw [← HX.out.2.1]; exact h))), hid (permIn_trans _ _ _ _ _ HP.out H2.out), H3⟩
end
end Go.Proofs.Ytgimpkbknaopcaa
