/- The library's stable sort, whole. No statement is proved here. -/
import Derived.Test.YtgimpkbknaopcaaStE
import Derived.Shelf.SlLaysF0
import Derived.Shelf.SlSortCmp.InsertionK
set_option linter.unusedVariables false
set_option linter.unusedSimpArgs false
namespace Go.Proofs.Ytgimpkbknaopcaa
open Go.RowKit Go.Shelf Go.Lib
open Go.Sort hiding Below
section
variable {α : Type} [Inhabited α]
def insVio_ren : Go.Shelf.Ren := ⟨fun | 20 => 49 | n => n, fun | 24 => 30 | 3 => 3 | 4 => 4 | 22 => 28 | 25 => 40 | 0 => 0 | n => n, fun | n => n⟩
theorem insVio : SlLaysF0.n20 Try.prog insVio_ren := {
  mixed := by kernel_rfl
  f20 := ⟨Try.f49.name, by decide, Try.func49.trans (congrArg some (by kernel_rfl))⟩
  t3 := Try.underlying3
  a3 := Try.isAgg3
  z3 := Try.sizeOf3
  v3 := Try.zeroValue3
  t4 := Try.underlying4
  a4 := Try.isAgg4
  z4 := Try.sizeOf4
  v4 := Try.zeroValue4
  t22 := Try.underlying28
  a22 := Try.isAgg28
  z22 := Try.sizeOf28
  v22 := Try.zeroValue28
  t25 := Try.underlying40
  a25 := Try.isAgg40
  z25 := Try.sizeOf40
  v25 := Try.zeroValue40
  t0 := Try.underlying0
  a0 := Try.isAgg0
  z0 := Try.sizeOf0
  v0 := Try.zeroValue0 }

/-- Insertion by two orders that agree where the later one came later. -/
theorem insInner_eq {lt1 lt2 : α → α → Bool} {tag : α → Nat} (hag : ∀ x y, tag y < tag x → lt1 x y = lt2 x y) (a : Nat) : ∀ (j : Nat) (d : Array α), j < d.size → (∀ p, a ≤ p → p < j → tag d[p]! < tag d[j]!) → insInner lt1 a j d = insInner lt2 a j d
  | 0, d, _, _ => by unfold insInner; rfl
  | j + 1, d, hj, h => by
    unfold insInner
    by_cases hja : j + 1 > a
    · have e := hag d[j + 1]! d[j]! (h j (by omega) (by omega))
      rw [e]
      have ih := insInner_eq hag a j (swp d (j + 1) j) (by rw [swp_size]; omega) (fun p h1 h2 => by
        rw [swp_get d hj (by omega), swp_get d hj (by omega), if_neg (by omega), if_neg (by omega), if_pos rfl]
        exact h p h1 (by omega))
      rw [ih]
    · simp [hja]
theorem insInner_in (lt : α → α → Bool) (a i : Nat) : ∀ (j : Nat) (d : Array α), j ≤ i → i < d.size → PermIn a (i + 1) d (insInner lt a j d)
  | 0, d, _, _ => by unfold insInner; exact permIn_refl d a (i + 1)
  | j + 1, d, hji, hi => by
    unfold insInner
    split
    · rename_i hc
      simp only [Bool.and_eq_true, decide_eq_true_eq] at hc
      exact permIn_trans _ _ _ _ _ (swp_permIn d a (i + 1) (j + 1) j (by omega) (by omega) (by omega) (by omega) (by omega)) (insInner_in lt a i j _ (by omega) (by rw [swp_size]; exact hi))
    · exact permIn_refl d a (i + 1)
theorem insOuter_eq {lt1 lt2 : α → α → Bool} {tag : α → Nat} (hag : ∀ x y, tag y < tag x → lt1 x y = lt2 x y) (a b : Nat) : ∀ (n i : Nat) (d : Array α), b - i = n → b ≤ d.size → (∀ p q, a ≤ p → p < q → i ≤ q → q < b → tag d[p]! < tag d[q]!) → insOuter lt1 a b i d = insOuter lt2 a b i d
  | 0, i, d, hn, hb, h => by
    rw [insOuter, if_neg (by omega), insOuter, if_neg (by omega)]
  | n + 1, i, d, hn, hb, h => by
    have hlt : i < b := by omega
    rw [insOuter, if_pos hlt]
    conv => rhs; rw [insOuter, if_pos hlt]
    rw [insInner_eq hag a i d (by omega) (fun p h1 h2 => h p i h1 h2 (Nat.le_refl _) hlt)]
    have hp := insInner_in lt2 a i i d (Nat.le_refl _) (by omega)
    refine insOuter_eq hag a b n (i + 1) _ (by omega) (by rw [hp.1]; exact hb) (fun p q h1 h2 h3 h4 => ?_)
    rw [hp.2.1 q (.inr h3)]
    by_cases hpi : p < i + 1
    · exact permIn_all d _ a (i + 1) (fun x => tag x < tag d[q]!) (by omega) hp (fun k k1 k2 => h k q k1 (by omega) (by omega) h4) p h1 hpi
    · rw [hp.2.1 p (.inr (by omega))]
      exact h p q h1 h2 (by omega) h4
theorem blk_div {a c bs i : Nat} (h : a = c * bs) (h1 : a ≤ i) (h2 : i < a + bs) : i / bs = c := by
  subst h
  exact Nat.div_eq_of_lt_le h1 (by rw [Nat.add_mul, Nat.one_mul]; exact h2)
theorem blk_ge {a u B i j : Nat} (hB : 0 < B) (h : a = u * B) (e : i / B = j / B) (hj : a ≤ j) : a ≤ i := by
  subst h
  have h1 : u ≤ j / B := (Nat.le_div_iff_mul_le hB).2 hj
  rw [← e] at h1
  exact (Nat.le_div_iff_mul_le hB).1 h1
theorem tag_lt {x y bs c : Nat} (hx : x / bs = c) (hy : y / bs = c + 1) : x < y := by
  refine Nat.lt_of_not_le fun h => ?_
  have := Nat.div_le_div_right (c := bs) h
  omega
section
variable {lt : α → α → Bool} {tag : α → Nat}
/-- Blocks of bs elements, each sorted, each of the elements that lay there at first. -/
structure RunsT (lt : α → α → Bool) (tag : α → Nat) (bs n : Nat) (d : Array α) : Prop where
  srt : ∀ i j, i < j → j < n → i / bs = j / bs → lt d[j]! d[i]! = false
  tb : ∀ i, i < n → tag d[i]! / bs = i / bs
/-- Blocks of bs elements, merged in twos up to a. -/
structure Mg (lt : α → α → Bool) (tag : α → Nat) (bs n a : Nat) (d : Array α) : Prop where
  lo : ∀ i j, i < j → j < a → i / (2 * bs) = j / (2 * bs) → lt d[j]! d[i]! = false
  hi : ∀ i j, i < j → a ≤ i → j < n → i / bs = j / bs → lt d[j]! d[i]! = false
  t2 : ∀ i, i < n → tag d[i]! / (2 * bs) = i / (2 * bs)
  t1 : ∀ i, a ≤ i → i < n → tag d[i]! / bs = i / bs
theorem Mg.left {bs n a u : Nat} {d : Array α} (h : Mg lt tag bs n a d) (ha : a = u * (2 * bs)) (hn : a + bs ≤ n) : SortedIn lt a (a + bs) d := fun i j h1 h2 h3 => by
  have e : a = (u * 2) * bs := by rw [ha, Nat.mul_assoc]
  exact h.hi i j h2 h1 (by omega) (by rw [blk_div e h1 (by omega), blk_div e (by omega) h3])
theorem Mg.right {bs n a u b : Nat} {d : Array α} (h : Mg lt tag bs n a d) (ha : a = u * (2 * bs)) (hb : b ≤ n) (hb2 : b ≤ a + 2 * bs) : SortedIn lt (a + bs) b d := fun i j h1 h2 h3 => by
  have e : a + bs = (u * 2 + 1) * bs := by rw [ha, Nat.add_mul, Nat.one_mul, Nat.mul_assoc]
  exact h.hi i j h2 (by omega) (by omega) (by rw [blk_div e h1 (by omega), blk_div e (by omega) (by omega)])
theorem Mg.tags {bs n a u b : Nat} {d : Array α} (h : Mg lt tag bs n a d) (ha : a = u * (2 * bs)) (hb : b ≤ n) (hb2 : b ≤ a + 2 * bs) : ∀ p q, a ≤ p → p < a + bs → a + bs ≤ q → q < b → tag d[p]! < tag d[q]! := fun p q h1 h2 h3 h4 => by
  have e : a = (u * 2) * bs := by rw [ha, Nat.mul_assoc]
  have e2 : a + bs = (u * 2 + 1) * bs := by rw [ha, Nat.add_mul, Nat.one_mul, Nat.mul_assoc]
  exact tag_lt (bs := bs) (c := u * 2) (by rw [h.t1 p h1 (by omega), blk_div e h1 h2]) (by rw [h.t1 q (by omega) (by omega), blk_div e2 h3 (by omega)])
theorem Mg.all {bs n a u : Nat} {d : Array α} (h : Mg lt tag bs n a d) (ha : a = u * (2 * bs)) (hn : n ≤ a + bs) : SortedIn lt a n d := fun i j h1 h2 h3 => by
  have e : a = (u * 2) * bs := by rw [ha, Nat.mul_assoc]
  exact h.hi i j h2 h1 (by omega) (by rw [blk_div e h1 (by omega), blk_div e (by omega) (by omega)])
theorem Mg.step {bs n a u b : Nat} {d d' : Array α} (h : Mg lt tag bs n a d) (hb0 : 0 < bs) (ha : a = u * (2 * bs)) (hab : a ≤ b) (hb : b ≤ a + 2 * bs) (hbn : b ≤ n) (hnd : n ≤ d.size) (k : PermIn a b d d') (s : SortedIn lt a b d') : Mg lt tag bs n b d' := by
  refine ⟨fun i j h1 h2 e => ?_, fun i j h1 h2 h3 e => ?_, fun i h1 => ?_, fun i h1 h2 => ?_⟩
  · by_cases hj : j < a
    · rw [k.2.1 i (.inl (by omega)), k.2.1 j (.inl hj)]
      exact h.lo i j h1 hj e
    · exact s i j (blk_ge (by omega) ha e (by omega)) h1 h2
  · rw [k.2.1 i (.inr h2), k.2.1 j (.inr (by omega))]
    exact h.hi i j h1 (by omega) h3 e
  · by_cases hi : a ≤ i ∧ i < b
    · rw [blk_div ha hi.1 (by omega)]
      exact permIn_all d d' a b (fun x => tag x / (2 * bs) = u) (by omega) k (fun p h3 h4 => by rw [h.t2 p (by omega), blk_div ha h3 (by omega)]) i hi.1 hi.2
    · rw [k.2.1 i (by omega)]
      exact h.t2 i h1
  · rw [k.2.1 i (.inr h1)]
    exact h.t1 i (by omega) h2
theorem Mg.runs {bs n : Nat} {d : Array α} (h : Mg lt tag bs n n d) : RunsT lt tag (2 * bs) n d := ⟨fun i j h1 h2 e => h.lo i j h1 h2 e, h.t2⟩
theorem RunsT.mg {bs n : Nat} {d : Array α} (h : RunsT lt tag bs n d) : Mg lt tag bs n 0 d := ⟨fun i j _ h2 => by omega, fun i j h1 _ h3 e => h.srt i j h1 h3 e, fun i hi => by rw [Nat.mul_comm, ← Nat.div_div_eq_div_mul, ← Nat.div_div_eq_div_mul, h.tb i hi], fun i _ hi => h.tb i hi⟩
theorem RunsT.end' {bs n : Nat} {d : Array α} (h : RunsT lt tag bs n d) (hn : n ≤ bs) : SortedIn lt 0 n d := fun i j _ h1 h2 => h.srt i j h1 h2 (by rw [Nat.div_eq_of_lt (by omega), Nat.div_eq_of_lt (by omega)])
/-- The blocks below a are sorted; behind it all is as it was. -/
structure Rlo (lt : α → α → Bool) (tag : α → Nat) (bs n a : Nat) (d : Array α) : Prop where
  srt : ∀ i j, i < j → j < a → i / bs = j / bs → lt d[j]! d[i]! = false
  tb : ∀ i, i < n → tag d[i]! / bs = i / bs
  id : ∀ i, a ≤ i → i < n → tag d[i]! = i
theorem Rlo.step {bs n a u b : Nat} {d d' : Array α} (h : Rlo lt tag bs n a d) (hab : a ≤ b) (hb0 : 0 < bs) (ha : a = u * bs) (hb : b ≤ a + bs) (hbn : b ≤ n) (hnd : n ≤ d.size) (k : PermIn a b d d') (s : SortedIn lt a b d') : Rlo lt tag bs n b d' := by
  refine ⟨fun i j h1 h2 e => ?_, fun i h1 => ?_, fun i h1 h2 => ?_⟩
  · by_cases hj : j < a
    · rw [k.2.1 i (.inl (by omega)), k.2.1 j (.inl hj)]
      exact h.srt i j h1 hj e
    · exact s i j (blk_ge hb0 ha e (by omega)) h1 h2
  · by_cases hi : a ≤ i ∧ i < b
    · rw [blk_div ha hi.1 (by omega)]
      exact permIn_all d d' a b (fun x => tag x / bs = u) (by omega) k (fun p h3 h4 => by rw [h.tb p (by omega), blk_div ha h3 (by omega)]) i hi.1 hi.2
    · rw [k.2.1 i (by omega)]
      exact h.tb i h1
  · rw [k.2.1 i (.inr h1)]
    exact h.id i (by omega) h2
theorem Rlo.asc {bs n a b : Nat} {d : Array α} (h : Rlo lt tag bs n a d) (hb : b ≤ n) : ∀ p q, a ≤ p → p < q → q < b → tag d[p]! < tag d[q]! := fun p q h1 h2 h3 => by
  rw [h.id p h1 (by omega), h.id q (by omega) (by omega)]
  exact h2
end
variable {k : Nat} (L : StL Try.prog k) (enc : α → List Value) (cf : α → α → Int) (lt : α → α → Bool) (tag : α → Nat) (hag : ∀ x y, tag y < tag x → ltOf cf x y = lt x y) (hS : SWO lt) (g : Nat) (cb : Array Value) (eg : ∀ args w, (callFunc g args).run Try.prog w = .ok (.enter g args) w) (blk off cap : Nat) (d0 : Array α) (w0 : World) (R : RowK enc k w0 blk off d0) (hcmp : CmpLays Try.prog g cb enc k cf blk off d0.size w0) (hsz : d0.size < 2305843009213693952)
include L hag hS eg R hcmp hsz
theorem ins_w (a b : Nat) (d : Array α) (w : World) (hab : a ≤ b) (hb : b ≤ d.size) (hsd : d.size = d0.size) (ht : ∀ p q, a ≤ p → p < q → q < b → tag d[p]! < tag d[q]!) (S : SWK enc k w0 blk off d w) :
    Calls Try.prog 49 #[.slice (some ⟨blk, off, none⟩) d0.size cap, .int .i64 a, .int .i64 b, .func (.func g) #[] cb] w (SymPost enc k w0 blk off lt a b d) := by
  have hc : CmpLays Try.prog g cb enc k cf blk off d.size w := fun m os dk hdk x y => by
    obtain ⟨m', os', he⟩ := S.on R.hblk m dk os hdk
    rw [he]
    exact hcmp m' os' dk (hdk.trans hsd) x y
  have h := AnyQ.insertionSortCmpFunc (P := Try.prog) (ρ := insVio_ren) insVio k L.aE L.zE enc R.hk R.h1 cf g cb blk off cap a b d w eg hc (S.holds R.hblk R.hH hsd) (S.lt R.hblk) hab hb (by omega)
  rw [hsd] at h
  have he : Sort.insertionSort (ltOf cf) d a b = Sort.insertionSort lt d a b := insOuter_eq hag a b _ (a + 1) d rfl hb (fun p q h1 h2 _ h4 => ht p q h1 h2 h4)
  rw [he] at h
  refine Calls.mono h ?_
  rintro e w' ⟨rfl, n, os, rfl⟩
  obtain ⟨h1, h2⟩ := insertionSort_holds hS d a b hab hb
  exact ⟨rfl, _, h1, h2, S.on R.hblk n _ os h1.1⟩

set_option maxHeartbeats 8000000 in
set_option maxRecDepth 1000000 in
theorem stable_o (hd0 : ∀ i, i < d0.size → tag d0[i]! = i) (w : World) (S : SWK enc k w0 blk off d0 w) :
    Calls Try.prog 38 #[.slice (some ⟨blk, off, none⟩) d0.size cap, .int .i64 d0.size, .func (.func g) #[] cb] w (SymPost enc k w0 blk off lt 0 d0.size d0) := by
  obtain ⟨n, hn⟩ : ∃ n, n = d0.size := ⟨_, rfl⟩
  have HN := hid hn
  have hn61 : n < 2305843009213693952 := by omega
  have S0 : Aside (SWK enc k w0 blk off d0 w) := S
  have HINS := hid (ins_w L enc cf lt tag hag hS g cb eg blk off cap d0 w0 R hcmp hsz)
  have HSYM := hid (symMerge_o L enc cf lt tag hag hS g cb eg blk off cap d0 w0 R hcmp hsz)
  have HD0 := hid hd0
  clear S eg R hcmp hsz hag hS L hd0
  rw [← hn] at HINS HSYM HD0 ⊢
  clear hn
  go_enter Try.func38, Try.ntmps38
  go_wp2_with fail
  go_loopg [7, 8] n (fun gx s7 s8 wr => ∃ (a : Nat) (dk : Array α), s7 = .int .i64 (a : Int) ∧ s8 = .int .i64 ((a : Int) + 20) ∧ n - a = gx ∧ a ≤ n ∧ Hid ((∃ u, a = u * 20) ∧ dk.size = n) ∧ Hid (PermIn 0 n d0 dk ∧ Rlo lt tag 20 n a dk) ∧ Aside (SWK enc k w0 blk off dk wr))
  case atStart => exact ⟨0, d0, rfl, rfl, rfl, Nat.zero_le _, hid ⟨⟨0, rfl⟩, HN.out.symm⟩, hid ⟨permIn_refl _ _ _, ⟨fun i j _ h => by omega, fun i hi => by rw [HD0.out i hi], fun i _ hi => HD0.out i hi⟩⟩, S0⟩
  case round =>
    clear S0
    obtain ⟨a, dk, rfl, rfl, rfl, han, HA, HP, S1⟩ := hrel
    by_cases hlt : a + 20 ≤ n
    · have hltI : (a : Int) + 20 ≤ (n : Int) := by omega
      obtain ⟨b, hb⟩ : ∃ b, b = a + 20 := ⟨_, rfl⟩
      have hbI : (a : Int) + 20 = (b : Int) := by omega
      have wb : IntKind.i64.wrap ((b : Int) + 20) = (b : Int) + 20 := by rw [IntKind.wrap_i64]; omega
      have hi := HINS.out a b dk wr (by omega) (by rw [HA.out.2]; omega) HA.out.2 (HP.out.2.asc (by omega)) S1.out
      have HI := hid hi
      have HB := hid (And.intro hb hlt)
      rw [hbI] at hltI ⊢
      clear hi hb hlt S1 hbI
      go_wp2_with (go_at_call 49; refine HI.out.mono ?_; rintro e w2 ⟨rfl, d1, h1, h2, h3⟩; have H1 := hid h1; have H2 := hid h2; have S2 : Aside (SWK enc k w0 blk off d1 w2) := h3; clear h1 h2 h3)
      go_roundg (n - b)
      case measure => have := HB.out; omega
      case rel =>
        obtain ⟨u, hu⟩ := HA.out.1
        refine ⟨b, d1, rfl, rfl, rfl, by have := HB.out; omega, hid ⟨⟨u + 1, by have := HB.out.1; omega⟩, H1.out.1.trans HA.out.2⟩, hid ⟨permIn_trans _ _ _ _ _ HP.out.1 (permIn_mono dk d1 a b 0 n (Nat.zero_le _) (by have := HB.out; omega) (by rw [HA.out.2]; exact Nat.le_refl _) H1.out), HP.out.2.step (by have := HB.out; omega) (by omega) hu (by have := HB.out; omega) (by have := HB.out; omega) (by rw [HA.out.2]; exact Nat.le_refl _) H1.out H2.out⟩, S2⟩
    · have hltI : ¬ (a : Int) + 20 ≤ (n : Int) := by omega
      have hi := HINS.out a n dk wr han (by rw [HA.out.2]; exact Nat.le_refl _) HA.out.2 (HP.out.2.asc (Nat.le_refl _)) S1.out
      have HI := hid hi
      have HLT := hid (show n < a + 20 by omega)
      clear hi hlt S1
      go_wp2_with (go_at_call 49; refine HI.out.mono ?_; rintro e w2 ⟨rfl, d1, h1, h2, h3⟩; have H1 := hid h1; have H2 := hid h2; have S2 : Aside (SWK enc k w0 blk off d1 w2) := h3; clear h1 h2 h3)
      obtain ⟨u, hu⟩ := HA.out.1
      have HR0 : Hid (RunsT lt tag 20 n d1) := hid (by
        have hr := HP.out.2.step han (by omega) hu (by have := HLT.out; omega) (Nat.le_refl _) (by rw [HA.out.2]; exact Nat.le_refl _) H1.out H2.out
        exact ⟨hr.srt, hr.tb⟩)
      have HP0 : Hid (PermIn 0 n d0 d1 ∧ d1.size = n) := hid ⟨permIn_trans _ _ _ _ _ HP.out.1 (permIn_mono dk d1 a n 0 n (Nat.zero_le _) (Nat.le_refl _) (by rw [HA.out.2]; exact Nat.le_refl _) H1.out), H1.out.1.trans HA.out.2⟩
      clear hu HI H1 H2 HP
      go_loopg [6] n (fun gx s6 wr => ∃ (bs : Nat) (dk : Array α), s6 = .int .i64 (bs : Int) ∧ n - bs ≤ gx ∧ Hid (20 ≤ bs ∧ bs ≤ 2 * n + 20) ∧ Hid (RunsT lt tag bs n dk ∧ PermIn 0 n d0 dk ∧ dk.size = n) ∧ Aside (SWK enc k w0 blk off dk wr))
      case atStart => exact ⟨20, d1, rfl, Nat.sub_le _ _, hid (by omega), hid ⟨HR0.out, HP0.out⟩, S2⟩
      case round =>
        clear S2
        obtain ⟨bs, dk, rfl, hgx, HBS, HRP, S3⟩ := hrel
        have HGX := hid hgx
        clear hgx
        by_cases hbn : bs < n
        · have hbnI : (bs : Int) < (n : Int) := by omega
          obtain ⟨B, hB⟩ : ∃ B, B = 2 * bs := ⟨_, rfl⟩
          have wB : IntKind.i64.wrap (2 * (bs : Int)) = (B : Int) := by rw [IntKind.wrap_i64]; omega
          have wB2 : IntKind.i64.wrap ((bs : Int) * 2) = (B : Int) := by rw [IntKind.wrap_i64]; omega
          have HBB := hid (And.intro hB hbn)
          clear hB hbn
          go_wp2_with fail
          go_loopg [7, 8] n (fun gx s7 s8 wr => ∃ (a : Nat) (dk : Array α), s7 = .int .i64 (a : Int) ∧ s8 = .int .i64 ((a + B : Nat) : Int) ∧ n - a = gx ∧ a ≤ n ∧ Hid ((∃ u, a = u * (2 * bs)) ∧ dk.size = n) ∧ Hid (PermIn 0 n d0 dk ∧ Mg lt tag bs n a dk) ∧ Aside (SWK enc k w0 blk off dk wr))
          case atStart => exact ⟨0, dk, rfl, by rw [Nat.zero_add], rfl, Nat.zero_le _, hid ⟨⟨0, by omega⟩, HRP.out.2.2⟩, hid ⟨HRP.out.2.1, HRP.out.1.mg⟩, S3⟩
          case round =>
            clear S3
            obtain ⟨a, dk, rfl, rfl, rfl, han, HA, HP, S1⟩ := hrel
            obtain ⟨b, hb⟩ : ∃ b, b = a + B := ⟨_, rfl⟩
            rw [← hb]
            have hb62 : b ≤ n + n + n := by have := HBB.out; omega
            obtain ⟨m, hm⟩ : ∃ m, m = a + bs := ⟨_, rfl⟩
            have wm : IntKind.i64.wrap ((a : Int) + (bs : Int)) = (m : Int) := by rw [IntKind.wrap_i64]; have := HBB.out; omega
            by_cases hlt : b ≤ n
            · have hltI : (b : Int) ≤ (n : Int) := by omega
              obtain ⟨b2, hb2⟩ : ∃ b2, b2 = b + B := ⟨_, rfl⟩
              have wb2 : IntKind.i64.wrap ((b : Int) + (B : Int)) = (b2 : Int) := by rw [IntKind.wrap_i64]; have := HBB.out; omega
              have HI : Hid (Calls Try.prog 50 #[.slice (some ⟨blk, off, none⟩) n cap, .int .i64 a, .int .i64 m, .int .i64 b, .func (.func g) #[] cb] wr (SymPost enc k w0 blk off lt a b dk)) := hid (by
                obtain ⟨u, hu⟩ := HA.out.1
                have h20 := HBS.out.1
                have hBB := HBB.out.1
                exact HSYM.out (b - a) a m b dk wr (Nat.le_refl _) (by omega) (by omega) (by rw [HA.out.2]; exact hlt) HA.out.2 (by rw [hm]; exact HP.out.2.left hu (by omega)) (by rw [hm]; exact HP.out.2.right hu hlt (by omega)) (by rw [hm]; exact HP.out.2.tags hu hlt (by omega)) S1.out)
              have HB := hid (And.intro hb (And.intro hlt (And.intro hb2 hm)))
              clear hb hlt hb2 hm S1 hb62
              go_wp2_with (go_at_call 50; refine HI.out.mono ?_; rintro e w2 ⟨rfl, d2, h1, h2, h3⟩; have H1 := hid h1; have H2 := hid h2; have S2 : Aside (SWK enc k w0 blk off d2 w2) := h3; clear h1 h2 h3)
              go_roundg (n - b)
              case measure => have := HB.out; have := HBB.out; have := HBS.out; omega
              case rel =>
                obtain ⟨u, hu⟩ := HA.out.1
                refine ⟨b, d2, rfl, by rw [HB.out.2.2.1], rfl, HB.out.2.1, hid ⟨⟨u + 1, ?_⟩, H1.out.1.trans HA.out.2⟩, hid ⟨permIn_trans _ _ _ _ _ HP.out.1 (permIn_mono dk d2 a b 0 n (Nat.zero_le _) HB.out.2.1 (by rw [HA.out.2]; exact Nat.le_refl _) H1.out), HP.out.2.step (by have := HBS.out; omega) hu (by have := HB.out; omega) (by have := HB.out; have := HBB.out; omega) HB.out.2.1 (by rw [HA.out.2]; exact Nat.le_refl _) H1.out H2.out⟩, S2⟩
                rw [Nat.add_mul, Nat.one_mul, ← hu]
                have := HB.out
                have := HBB.out
                omega
            · have hltI : ¬ (b : Int) ≤ (n : Int) := by omega
              have HB := hid (And.intro hb (And.intro (show n < b by omega) hm))
              by_cases hmn : m < n
              · have hmnI : (m : Int) < (n : Int) := by omega
                have HI : Hid (Calls Try.prog 50 #[.slice (some ⟨blk, off, none⟩) n cap, .int .i64 a, .int .i64 m, .int .i64 n, .func (.func g) #[] cb] wr (SymPost enc k w0 blk off lt a n dk)) := hid (by
                  obtain ⟨u, hu⟩ := HA.out.1
                  have h20 := HBS.out.1
                  have hBB := HBB.out.1
                  exact HSYM.out (n - a) a m n dk wr (Nat.le_refl _) (by omega) hmn (by rw [HA.out.2]; exact Nat.le_refl _) HA.out.2 (by rw [hm]; exact HP.out.2.left hu (by omega)) (by rw [hm]; exact HP.out.2.right hu (Nat.le_refl _) (by omega)) (by rw [hm]; exact HP.out.2.tags hu (Nat.le_refl _) (by omega)) S1.out)
                clear hb hlt hm S1 hb62 hmn
                go_wp2_with (go_at_call 50; refine HI.out.mono ?_; rintro e w2 ⟨rfl, d2, h1, h2, h3⟩; have H1 := hid h1; have H2 := hid h2; have S2 : Aside (SWK enc k w0 blk off d2 w2) := h3; clear h1 h2 h3)
                go_roundg (n - B)
                case measure => have := HGX.out; have := HBS.out; have := HBB.out; omega
                case rel =>
                  obtain ⟨u, hu⟩ := HA.out.1
                  have hr := (HP.out.2.step (b := n) (by have := HBS.out; omega) hu han (by have := HB.out; have := HBB.out; omega) (Nat.le_refl _) (by rw [HA.out.2]; exact Nat.le_refl _) H1.out H2.out).runs
                  rw [← HBB.out.1] at hr
                  exact ⟨B, d2, rfl, Nat.le_refl _, hid (by have := HBS.out; have := HBB.out; omega), hid ⟨hr, permIn_trans _ _ _ _ _ HP.out.1 (permIn_mono dk d2 a n 0 n (Nat.zero_le _) (Nat.le_refl _) (by rw [HA.out.2]; exact Nat.le_refl _) H1.out), H1.out.1.trans HA.out.2⟩, S2⟩
              · have hmnI : ¬ (m : Int) < (n : Int) := by omega
                have HMN := hid (show n ≤ m by omega)
                clear hb hlt hm hb62 hmn
                go_wp2_with fail
                go_roundg (n - B)
                case measure => have := HGX.out; have := HBS.out; have := HBB.out; omega
                case rel =>
                  obtain ⟨u, hu⟩ := HA.out.1
                  have hr := (HP.out.2.step (b := n) (by have := HBS.out; omega) hu han (by have := HB.out; have := HBB.out; omega) (Nat.le_refl _) (by rw [HA.out.2]; exact Nat.le_refl _) (permIn_refl dk a n) (HP.out.2.all hu (by have := HB.out; have := HMN.out; omega))).runs
                  rw [← HBB.out.1] at hr
                  exact ⟨B, dk, rfl, Nat.le_refl _, hid (by have := HBS.out; have := HBB.out; omega), hid ⟨hr, HP.out.1, HA.out.2⟩, S1⟩
        · have hbnI : ¬ (bs : Int) < (n : Int) := by omega
          have HBN := hid (show n ≤ bs by omega)
          clear hbn
          go_wp2_with fail
          refine bodyPost_end (v := .tuple #[]) (by simp [results, Try.results38, go_sem]) rfl ?_
          exact SymPost.ret rfl HRP.out.2.1 (HRP.out.1.end' HBN.out) S3.out
end
end Go.Proofs.Ytgimpkbknaopcaa
