/- The library's sort of puts, laid; SortFunc by its contract. No statement is proved here. -/
import Derived.Test.YtgimpkbknaopcaaVD
import Derived.Shelf.SlSortCmp.WholeK
set_option linter.unusedVariables false
set_option linter.unusedSimpArgs false
namespace Go.Proofs.Ytgimpkbknaopcaa
open Go.RowKit Go.Shelf Go.Lib
open Go.Sort hiding Below
def pdqPut_ren : Go.Shelf.Ren := ⟨fun | 14 => 35 | 20 => 39 | 21 => 40 | 22 => 41 | 23 => 42 | 24 => 43 | 25 => 44 | 26 => 45 | 27 => 46 | 46 => 51 | 47 => 52 | 48 => 53 | 49 => 54 | 50 => 55 | 15 => 36 | 57 => 57 | 28 => 47 | 29 => 48 | n => n, fun | 24 => 55 | 22 => 50 | 3 => 3 | 25 => 62 | 4 => 4 | 0 => 0 | 46 => 81 | 45 => 80 | 50 => 85 | 66 => 93 | 39 => 73 | 55 => 90 | 70 => 97 | 76 => 99 | 77 => 100 | 53 => 88 | 5 => 5 | 9 => 9 | n => n, fun | n => n⟩
theorem pdqPut : SlLaysF0.n14 Try.prog pdqPut_ren := {
  mixed := by kernel_rfl
  f14 := ⟨Try.f35.name, by decide, Try.func35.trans (congrArg some (by kernel_rfl))⟩
  f15 := Try.func36.trans (congrArg some (by kernel_rfl))
  f20 := ⟨Try.f39.name, by decide, Try.func39.trans (congrArg some (by kernel_rfl))⟩
  f21 := ⟨Try.f40.name, by decide, Try.func40.trans (congrArg some (by kernel_rfl))⟩
  f22 := ⟨Try.f41.name, by decide, Try.func41.trans (congrArg some (by kernel_rfl))⟩
  f23 := ⟨Try.f42.name, by decide, Try.func42.trans (congrArg some (by kernel_rfl))⟩
  f24 := ⟨Try.f43.name, by decide, Try.func43.trans (congrArg some (by kernel_rfl))⟩
  f25 := ⟨Try.f44.name, by decide, Try.func44.trans (congrArg some (by kernel_rfl))⟩
  f26 := ⟨Try.f45.name, by decide, Try.func45.trans (congrArg some (by kernel_rfl))⟩
  f27 := ⟨Try.f46.name, by decide, Try.func46.trans (congrArg some (by kernel_rfl))⟩
  f28 := Try.func47.trans (congrArg some (by kernel_rfl))
  f29 := Try.func48.trans (congrArg some (by kernel_rfl))
  f46 := ⟨Try.f51.name, by decide, Try.func51.trans (congrArg some (by kernel_rfl))⟩
  f47 := Try.func52.trans (congrArg some (by kernel_rfl))
  f48 := Try.func53.trans (congrArg some (by kernel_rfl))
  f49 := ⟨Try.f54.name, by decide, Try.func54.trans (congrArg some (by kernel_rfl))⟩
  f50 := ⟨Try.f55.name, by decide, Try.func55.trans (congrArg some (by kernel_rfl))⟩
  f57 := ⟨Try.f57.name, by decide, Try.func57.trans (congrArg some (by kernel_rfl))⟩
  t0 := Try.underlying0
  a0 := Try.isAgg0
  z0 := Try.sizeOf0
  v0 := Try.zeroValue0
  t3 := Try.underlying3
  a3 := Try.isAgg3
  z3 := Try.sizeOf3
  v3 := Try.zeroValue3
  t4 := Try.underlying4
  a4 := Try.isAgg4
  z4 := Try.sizeOf4
  v4 := Try.zeroValue4
  t5 := Try.underlying5
  a5 := Try.isAgg5
  z5 := Try.sizeOf5
  v5 := Try.zeroValue5
  t9 := Try.underlying9
  a9 := Try.isAgg9
  z9 := Try.sizeOf9
  v9 := Try.zeroValue9
  t22 := Try.underlying50
  a22 := Try.isAgg50
  z22 := Try.sizeOf50
  v22 := Try.zeroValue50
  t25 := Try.underlying62
  a25 := Try.isAgg62
  z25 := Try.sizeOf62
  v25 := Try.zeroValue62
  t39 := Try.underlying73
  a39 := Try.isAgg73
  z39 := Try.sizeOf73
  v39 := Try.zeroValue73
  t45 := Try.underlying80
  a45 := Try.isAgg80
  z45 := Try.sizeOf80
  v45 := Try.zeroValue80
  t46 := Try.underlying81
  a46 := Try.isAgg81
  z46 := Try.sizeOf81
  v46 := Try.zeroValue81
  t50 := Try.underlying85
  a50 := Try.isAgg85
  z50 := Try.sizeOf85
  v50 := Try.zeroValue85
  t53 := Try.underlying88
  a53 := Try.isAgg88
  z53 := Try.sizeOf88
  v53 := Try.zeroValue88
  t55 := Try.underlying90
  a55 := Try.isAgg90
  z55 := Try.sizeOf90
  v55 := Try.zeroValue90
  t66 := Try.underlying93
  a66 := Try.isAgg93
  z66 := Try.sizeOf93
  v66 := Try.zeroValue93
  t70 := Try.underlying97
  a70 := Try.isAgg97
  z70 := Try.sizeOf97
  v70 := Try.zeroValue97
  t76 := Try.underlying99
  a76 := Try.isAgg99
  z76 := Try.sizeOf99
  v76 := Try.zeroValue99
  t77 := Try.underlying100
  a77 := Try.isAgg100
  z77 := Try.sizeOf100
  v77 := Try.zeroValue100 }
def bitsLen_ren : Go.Shelf.Ren := ⟨fun | 15 => 36 | 28 => 47 | 29 => 48 | n => n, fun | 39 => 73 | 3 => 3 | 53 => 88 | 55 => 90 | 4 => 4 | 5 => 5 | 9 => 9 | n => n, fun | n => n⟩
theorem bitsLen : SlLaysF0.n15 Try.prog bitsLen_ren := {
  mixed := by kernel_rfl
  f15 := Try.func36.trans (congrArg some (by kernel_rfl))
  f28 := Try.func47.trans (congrArg some (by kernel_rfl))
  f29 := Try.func48.trans (congrArg some (by kernel_rfl))
  t3 := Try.underlying3
  a3 := Try.isAgg3
  z3 := Try.sizeOf3
  v3 := Try.zeroValue3
  t4 := Try.underlying4
  a4 := Try.isAgg4
  z4 := Try.sizeOf4
  v4 := Try.zeroValue4
  t5 := Try.underlying5
  a5 := Try.isAgg5
  z5 := Try.sizeOf5
  v5 := Try.zeroValue5
  t9 := Try.underlying9
  a9 := Try.isAgg9
  z9 := Try.sizeOf9
  v9 := Try.zeroValue9
  t39 := Try.underlying73
  a39 := Try.isAgg73
  z39 := Try.sizeOf73
  v39 := Try.zeroValue73
  t53 := Try.underlying88
  a53 := Try.isAgg88
  z53 := Try.sizeOf88
  v53 := Try.zeroValue88
  t55 := Try.underlying90
  a55 := Try.isAgg90
  z55 := Try.sizeOf90
  v55 := Try.zeroValue90 }

instance : Inhabited Pt := ⟨⟨⟨0, 0, 0, 0, 0, .empty, false, .empty, false, .empty, 0, 0⟩, 0⟩⟩
theorem lt_iff (p q : Pt) : ltOf cfP p q = true ↔ ltP p q := by
  unfold ltOf
  rw [decide_eq_true_eq, cfP_neg]
theorem swoP : SWO (ltOf cfP) where
  irrefl x := by
    rw [Bool.eq_false_iff]
    exact fun h => ltP_irrefl x ((lt_iff x x).1 h)
  trans x y z h k := (lt_iff x z).2 (ltP_trans ((lt_iff x y).1 h) ((lt_iff y z).1 k))
  ntrans x y z h k := by
    rw [Bool.eq_false_iff] at *
    exact fun hh => ltP_ntrans (fun a => h ((lt_iff x y).2 a)) (fun a => k ((lt_iff y z).2 a)) ((lt_iff x z).1 hh)

set_option maxHeartbeats 1000000 in
set_option maxRecDepth 100000 in
/-- SortFunc, as List calls it. -/
theorem sort_any (blk cap : Nat) (d : Array Pt) (w : World) (hH : HoldsK encP 13 w blk 0 d) (hblk : blk < w.heap.size) (hsz : d.size < 4611686018427387904) :
    Calls Try.prog 28 #[.slice (some ⟨blk, 0, none⟩) d.size cap, .func (.func 29) #[] #[]] w fun e w' => e = .returned (.tuple #[]) ∧ ∃ d', PermIn 0 d.size d d' ∧ SortedIn (ltOf cfP) 0 d.size d' ∧ SWK encP 13 w blk 0 d' w' := by
  have eg : ∀ args w, (callFunc 29 args).run Try.prog w = .ok (.enter 29 args) w := enters_of Try.func29 (by kernel_rfl) rfl
  have hcmp : CmpLays Try.prog 29 #[] encP 13 cfP blk 0 d.size w := fun m os dk _ x y => by
    have h := closure_any x y (sortWorldK encP 13 w blk 0 m dk os)
    exact h
  have hlim : Lib.bitLen d.size < 4611686018427387904 := Nat.lt_of_le_of_lt (Lib.bitLen_le d.size 62 (by omega) (by omega)) (by omega)
  have hp := AnyQ.pdqsortCmpFunc_all pdqPut 13 Try.isAgg55 Try.sizeOf55 encP cfP 29 #[] swoP blk 0 cap d w eg hcmp ⟨encP_length, encP_one, hH, hblk⟩ (d.size + 1) 0 d.size (Lib.bitLen d.size) d w (by omega) rfl (SWK.start hH) (Nat.zero_le _) (Nat.le_refl _) hsz hlim (Or.inl rfl)
  change Calls Try.prog 35 _ _ _ at hp
  have hl : Calls Try.prog 36 #[.int .u64 (d.size : Int)] w fun e w' => e = .returned (.int .i64 (Lib.bitLen d.size : Nat)) ∧ w' = w := by
    have h := Any.bits_Len (SlLaysF0.n15.bits (P := Try.prog) (ρ := bitsLen_ren) bitsLen) (d.size : Int) w (by omega) (by omega)
    rwa [Int.toNat_natCast] at h
  have hs := pdq_sorts (ltOf cfP) swoP d 0 d.size (Lib.bitLen d.size) true true (Nat.zero_le _) (Nat.le_refl _) (Or.inl rfl)
  have wr : IntKind.u64.wrap (d.size : Int) = d.size := by simp [IntKind.wrap, IntKind.bits, IntKind.signed]; omega
  generalize Lib.bitLen d.size = bl at *
  have hL : d.size ≤ 9223372036854775807 := by omega
  have Hs := hid hs
  clear hH hcmp eg hs
  generalize pdq (ltOf cfP) d 0 d.size bl true true = d' at *
  go_enter Try.func28, Try.ntmps28
  go_wp2_with (first | (go_at_call 36; refine hl.mono ?_; rintro e w' ⟨rfl, rfl⟩) | (go_at_call 35; refine hp.mono ?_; rintro e w' ⟨rfl, hsw⟩))
  exact bodyPost_end (v := .tuple #[]) (by simp [results, Try.results28, go_sem]) rfl ⟨rfl, _, Hs.out.1, Hs.out.2, hsw⟩
end Go.Proofs.Ytgimpkbknaopcaa
