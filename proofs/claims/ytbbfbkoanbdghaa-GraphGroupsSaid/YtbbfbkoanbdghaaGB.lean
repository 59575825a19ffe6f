/- The library's sort of edges, laid; SortFunc by its contract. No statement is proved here. -/
import Derived.Test.YtbbfbkoanbdghaaGA
import Derived.Sort.Statements
import Derived.Shelf.SlSortCmp.WholeK
set_option linter.unusedVariables false
set_option linter.unusedSimpArgs false
namespace Go.Proofs.Ytbbfbkoanbdghaa
open Go.RowKit Go.Shelf Go.Lib
open Go.Sort hiding Below
def pdqE_ren : Go.Shelf.Ren := ⟨fun | 14 => 53 | 15 => 50 | 20 => 65 | 21 => 66 | 22 => 67 | 23 => 68 | 24 => 69 | 25 => 70 | 26 => 71 | 27 => 72 | 28 => 63 | 29 => 64 | 46 => 87 | 47 => 83 | 48 => 84 | 49 => 88 | 50 => 89 | 57 => 94 | n => n, fun | 24 => 29 | 0 => 0 | 3 => 3 | 4 => 4 | 5 => 5 | 9 => 9 | 22 => 30 | 25 => 70 | 39 => 73 | 45 => 96 | 46 => 97 | 50 => 101 | 53 => 104 | 55 => 106 | 66 => 117 | 70 => 121 | 76 => 127 | 77 => 128 | n => n, fun | n => n⟩
theorem pdqE : SlLaysF0.n14 Try.prog pdqE_ren := {
  mixed := by kernel_rfl
  f14 := ⟨Try.f53.name, by decide, Try.func53.trans (congrArg some (by kernel_rfl))⟩
  f15 := Try.func50.trans (congrArg some (by kernel_rfl))
  f20 := ⟨Try.f65.name, by decide, Try.func65.trans (congrArg some (by kernel_rfl))⟩
  f21 := ⟨Try.f66.name, by decide, Try.func66.trans (congrArg some (by kernel_rfl))⟩
  f22 := ⟨Try.f67.name, by decide, Try.func67.trans (congrArg some (by kernel_rfl))⟩
  f23 := ⟨Try.f68.name, by decide, Try.func68.trans (congrArg some (by kernel_rfl))⟩
  f24 := ⟨Try.f69.name, by decide, Try.func69.trans (congrArg some (by kernel_rfl))⟩
  f25 := ⟨Try.f70.name, by decide, Try.func70.trans (congrArg some (by kernel_rfl))⟩
  f26 := ⟨Try.f71.name, by decide, Try.func71.trans (congrArg some (by kernel_rfl))⟩
  f27 := ⟨Try.f72.name, by decide, Try.func72.trans (congrArg some (by kernel_rfl))⟩
  f28 := Try.func63.trans (congrArg some (by kernel_rfl))
  f29 := Try.func64.trans (congrArg some (by kernel_rfl))
  f46 := ⟨Try.f87.name, by decide, Try.func87.trans (congrArg some (by kernel_rfl))⟩
  f47 := Try.func83.trans (congrArg some (by kernel_rfl))
  f48 := Try.func84.trans (congrArg some (by kernel_rfl))
  f49 := ⟨Try.f88.name, by decide, Try.func88.trans (congrArg some (by kernel_rfl))⟩
  f50 := ⟨Try.f89.name, by decide, Try.func89.trans (congrArg some (by kernel_rfl))⟩
  f57 := ⟨Try.f94.name, by decide, Try.func94.trans (congrArg some (by kernel_rfl))⟩
  t0 := Try.underlying0
  a0 := Try.isAgg0
  z0 := Try.sizeOf0
  v0 := Try.zeroValue0
  t3 := Try.underlying3
  a3 := Try.isAgg3
  z3 := Try.sizeOf3
  v3 := Try.zeroValue3
  t4 := Try.underlying4
  a4 := Try.isAgg4
  z4 := Try.sizeOf4
  v4 := Try.zeroValue4
  t5 := Try.underlying5
  a5 := Try.isAgg5
  z5 := Try.sizeOf5
  v5 := Try.zeroValue5
  t9 := Try.underlying9
  a9 := Try.isAgg9
  z9 := Try.sizeOf9
  v9 := Try.zeroValue9
  t22 := Try.underlying30
  a22 := Try.isAgg30
  z22 := Try.sizeOf30
  v22 := Try.zeroValue30
  t25 := Try.underlying70
  a25 := Try.isAgg70
  z25 := Try.sizeOf70
  v25 := Try.zeroValue70
  t39 := Try.underlying73
  a39 := Try.isAgg73
  z39 := Try.sizeOf73
  v39 := Try.zeroValue73
  t45 := Try.underlying96
  a45 := Try.isAgg96
  z45 := Try.sizeOf96
  v45 := Try.zeroValue96
  t46 := Try.underlying97
  a46 := Try.isAgg97
  z46 := Try.sizeOf97
  v46 := Try.zeroValue97
  t50 := Try.underlying101
  a50 := Try.isAgg101
  z50 := Try.sizeOf101
  v50 := Try.zeroValue101
  t53 := Try.underlying104
  a53 := Try.isAgg104
  z53 := Try.sizeOf104
  v53 := Try.zeroValue104
  t55 := Try.underlying106
  a55 := Try.isAgg106
  z55 := Try.sizeOf106
  v55 := Try.zeroValue106
  t66 := Try.underlying117
  a66 := Try.isAgg117
  z66 := Try.sizeOf117
  v66 := Try.zeroValue117
  t70 := Try.underlying121
  a70 := Try.isAgg121
  z70 := Try.sizeOf121
  v70 := Try.zeroValue121
  t76 := Try.underlying127
  a76 := Try.isAgg127
  z76 := Try.sizeOf127
  v76 := Try.zeroValue127
  t77 := Try.underlying128
  a77 := Try.isAgg128
  z77 := Try.sizeOf128
  v77 := Try.zeroValue128 }
def bitsLen_ren : Go.Shelf.Ren := ⟨fun | 15 => 50 | 28 => 63 | 29 => 64 | n => n, fun | 3 => 3 | 4 => 4 | 5 => 5 | 9 => 9 | 39 => 73 | 53 => 104 | 55 => 106 | n => n, fun | n => n⟩
theorem bitsLen : SlLaysF0.n15 Try.prog bitsLen_ren := {
  mixed := by kernel_rfl
  f15 := Try.func50.trans (congrArg some (by kernel_rfl))
  f28 := Try.func63.trans (congrArg some (by kernel_rfl))
  f29 := Try.func64.trans (congrArg some (by kernel_rfl))
  t3 := Try.underlying3
  a3 := Try.isAgg3
  z3 := Try.sizeOf3
  v3 := Try.zeroValue3
  t4 := Try.underlying4
  a4 := Try.isAgg4
  z4 := Try.sizeOf4
  v4 := Try.zeroValue4
  t5 := Try.underlying5
  a5 := Try.isAgg5
  z5 := Try.sizeOf5
  v5 := Try.zeroValue5
  t9 := Try.underlying9
  a9 := Try.isAgg9
  z9 := Try.sizeOf9
  v9 := Try.zeroValue9
  t39 := Try.underlying73
  a39 := Try.isAgg73
  z39 := Try.sizeOf73
  v39 := Try.zeroValue73
  t53 := Try.underlying104
  a53 := Try.isAgg104
  z53 := Try.sizeOf104
  v53 := Try.zeroValue104
  t55 := Try.underlying106
  a55 := Try.isAgg106
  z55 := Try.sizeOf106
  v55 := Try.zeroValue106 }

theorem E.cs_length (p : E) : p.cs.length = 3 := rfl
theorem E.cs_one (p : E) : ∀ v ∈ p.cs, v.oneCell' = true := by
  intro v hv
  simp only [E.cs, List.mem_cons, List.not_mem_nil, or_false] at hv
  rcases hv with rfl | rfl | rfl <;> rfl
theorem lt_iff (p q : E) : ltOf cmpE p q = true ↔ ltE p q := by
  unfold ltOf
  rw [decide_eq_true_eq, cmpE_neg]
theorem swoE : SWO (ltOf cmpE) where
  irrefl x := by
    rw [Bool.eq_false_iff]
    exact fun h => ltE_irrefl x ((lt_iff x x).1 h)
  trans x y z h k := (lt_iff x z).2 (ltE_trans ((lt_iff x y).1 h) ((lt_iff y z).1 k))
  ntrans x y z h k := by
    rw [Bool.eq_false_iff] at *
    exact fun hh => ltE_ntrans (fun a => h ((lt_iff x y).2 a)) (fun a => k ((lt_iff y z).2 a)) ((lt_iff x z).1 hh)

set_option maxHeartbeats 1000000 in
set_option maxRecDepth 100000 in
/-- SortFunc of edges by compare. -/
theorem sort_any (blk cap : Nat) (d : Array E) (w : World) (hH : HoldsK E.cs 3 w blk 0 d) (hblk : blk < w.heap.size) (hsz : d.size < 4611686018427387904) :
    Calls Try.prog 45 #[.slice (some ⟨blk, 0, none⟩) d.size cap, .func (.func 31) #[] #[]] w fun e w' => e = .returned (.tuple #[]) ∧ ∃ d', PermIn 0 d.size d d' ∧ SortedIn (ltOf cmpE) 0 d.size d' ∧ SWK E.cs 3 w blk 0 d' w' := by
  have eg : ∀ args w, (callFunc 31 args).run Try.prog w = .ok (.enter 31 args) w := enters_of Try.func31 (by kernel_rfl) rfl
  have hcmp : CmpLays Try.prog 31 #[] E.cs 3 cmpE blk 0 d.size w := fun m os dk _ x y => by
    have h := compare_any x y (sortWorldK E.cs 3 w blk 0 m dk os)
    exact h
  have hlim : Lib.bitLen d.size < 4611686018427387904 := Nat.lt_of_le_of_lt (Lib.bitLen_le d.size 62 (by omega) (by omega)) (by omega)
  have hp := AnyQ.pdqsortCmpFunc_all pdqE 3 Try.isAgg29 Try.sizeOf29 E.cs cmpE 31 #[] swoE blk 0 cap d w eg hcmp ⟨E.cs_length, E.cs_one, hH, hblk⟩ (d.size + 1) 0 d.size (Lib.bitLen d.size) d w (by omega) rfl (SWK.start hH) (Nat.zero_le _) (Nat.le_refl _) hsz hlim (Or.inl rfl)
  change Calls Try.prog 53 _ _ _ at hp
  have hl : Calls Try.prog 50 #[.int .u64 (d.size : Int)] w fun e w' => e = .returned (.int .i64 (Lib.bitLen d.size : Nat)) ∧ w' = w := by
    have h := Any.bits_Len (SlLaysF0.n15.bits (P := Try.prog) (ρ := bitsLen_ren) bitsLen) (d.size : Int) w (by omega) (by omega)
    rwa [Int.toNat_natCast] at h
  have hs := pdq_sorts (ltOf cmpE) swoE d 0 d.size (Lib.bitLen d.size) true true (Nat.zero_le _) (Nat.le_refl _) (Or.inl rfl)
  have wr : IntKind.u64.wrap (d.size : Int) = d.size := by simp [IntKind.wrap, IntKind.bits, IntKind.signed]; omega
  generalize Lib.bitLen d.size = bl at *
  have hL : d.size ≤ 9223372036854775807 := by omega
  have Hs := hid hs
  clear hH hcmp eg hs
  generalize pdq (ltOf cmpE) d 0 d.size bl true true = d' at *
  go_enter Try.func45, Try.ntmps45
  go_wp2_with (first | (go_at_call 50; refine hl.mono ?_; rintro e w' ⟨rfl, rfl⟩) | (go_at_call 53; refine hp.mono ?_; rintro e w' ⟨rfl, hsw⟩))
  exact bodyPost_end (v := .tuple #[]) (by simp [results, Try.results45, go_sem]) rfl ⟨rfl, _, Hs.out.1, Hs.out.2, hsw⟩
end Go.Proofs.Ytbbfbkoanbdghaa
