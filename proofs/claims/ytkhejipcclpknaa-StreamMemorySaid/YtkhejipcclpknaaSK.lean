/- Places of a device as keys of a map of counts. No statement is proved here. -/
import Derived.Test.YtkhejipcclpknaaRow
import Derived.Test.YtkhejipcclpknaaProg
import Derived.WalkKit
import Derived.Maps.Own
import Derived.Maps.OwnSet
import Derived.DeepKeys5
import Derived.Carry
import Derived.WideKeyEntry
set_option linter.unusedVariables false
set_option linter.unusedSimpArgs false
namespace Go.Proofs.Ytkhejipcclpknaa
open Go.RowKit Go.Maps Go.WideElems Go.ChangeMaps

theorem laidOutT : laidOutB Try.prog = true := by kernel_rfl
theorem sizeT : ∃ m, Try.prog.types.size = m + 1 ∧ m + 3 ≤ 10000 := ⟨Try.prog.types.size - 1, by kernel_rfl, of_decide_eq_true (by kernel_rfl)⟩
theorem keyTypeP : Try.prog.keyType 183 = true := by kernel_rfl
theorem lawP : Keyed Try.prog 183 := Keyed.of_law (deep_law_gate laidOutT (of_decide_eq_true (by kernel_rfl)) (of_decide_eq_true (by kernel_rfl)) keyTypeP (by kernel_rfl))
abbrev aggP (x y : Int) : Value := .agg #[.int .i64 x, .int .i64 y]
def keyP (x y : Int) : Lit := .string (keyBytes [.int .i64 x, .int .i64 y])
/-- The places that a device counts. -/
def okP (x y : Int) : Prop := 1 ≤ x ∧ x ≤ 2 ∧ 0 ≤ y ∧ y < 524288
theorem cellsOfP : Try.prog.cellsOf 183 = 2 := by kernel_rfl
theorem cellsOfI : Try.prog.cellsOf 3 = 1 := by kernel_rfl
theorem lits_int {m : Nat} {c : Value} : Try.prog.keyLits (m + 1) 3 [c] = (match c with | .int q' n => if q' = .i64 ∧ (Lit.int .i64 n).wf = true then some [.int .i64 n] else none | _ => none) := by
  unfold Program.keyLits
  rw [Try.underlying3]
  cases c <;> rfl
theorem keyOf_P (v : Value) : keyOf Try.prog 183 v = if v.formed Try.prog 183 = true then (Try.prog.keyLits (Try.prog.types.size + 1) 183 v.cells.toList).map fun ls => .string (keyBytes ls) else none := by
  unfold keyOf
  rw [Try.underlying183]
  simp [keyTypeP]
theorem litsP (m : Nat) (a b : Value) : Try.prog.keyLits (m + 1) 183 [a, b] =
    (do let x ← Try.prog.keyLits m 3 [a]; let y ← Try.prog.keyLits m 3 [b]; pure (x ++ y)) := by
  conv => lhs; unfold Program.keyLits
  simp only [Try.underlying183]
  simp [cellsOfP, cellsOfI, List.mapM_cons, List.mapM_nil]
  cases Try.prog.keyLits m 3 [a] <;> cases Try.prog.keyLits m 3 [b] <;> simp
theorem wfI {x : Int} (h1 : -9223372036854775808 ≤ x) (h2 : x ≤ 9223372036854775807) : (Lit.int .i64 x).wf = true := WalkArith.wf_i64 ⟨h1, h2⟩
theorem okP.wf {x y : Int} (h : okP x y) : (Lit.int .i64 x).wf = true ∧ (Lit.int .i64 y).wf = true := by
  obtain ⟨h1, h2, h3, h4⟩ := h
  exact ⟨wfI (by omega) (by omega), wfI (by omega) (by omega)⟩
theorem keyP_of {x y : Int} (h : okP x y) : keyOf Try.prog 183 (aggP x y) = some (keyP x y) := by
  obtain ⟨m, hm, _⟩ := sizeT
  obtain ⟨h1, h2⟩ := h.wf
  rw [keyOf_P, if_pos (by simp [Value.formed, Try.underlying183, cellsOfP])]
  simp only [Value.cells]
  rw [litsP, hm]
  simp [lits_int, h1, h2, keyP]
theorem keyP_inj {x y x' y' : Int} (h : okP x y) (h' : okP x' y') (e : keyP x y = keyP x' y') : x = x' ∧ y = y' := by
  have := lawP.inj (keyP_of h) (e ▸ keyP_of h')
  simp at this
  exact this
theorem keyP_lit {x y : Int} (h : okP x y) : WideAt.IsKeyLit (keyP x y) := lawP.key (keyP_of h)
theorem nodup_le : ∀ (N : Nat) (l : List Nat), l.Nodup → (∀ x ∈ l, x < N) → l.length ≤ N := by
  intro N
  induction N with
  | zero =>
    intro l _ hb
    cases l with
    | nil => simp
    | cons a l => exact absurd (hb a (by simp)) (by omega)
  | succ N ih =>
    intro l hd hb
    have h := ih (l.erase N) (hd.erase N) fun x hx => by
      have h1 := List.mem_of_mem_erase hx
      have h2 : x ≠ N := (hd.mem_erase_iff.1 hx).1
      have := hb x h1
      omega
    have h2 := List.length_erase (a := N) (l := l)
    rw [h2] at h
    split at h <;> omega
theorem places_le (ps : List (Int × Int)) (hd : ps.Nodup) (hok : ∀ p ∈ ps, okP p.1 p.2) : ps.length ≤ 1048576 := by
  have h := nodup_le 1048576 (ps.map fun p => (p.1 - 1).toNat * 524288 + p.2.toNat) (by
    rw [List.nodup_iff_pairwise_ne, List.pairwise_map]
    refine (List.nodup_iff_pairwise_ne.1 hd).imp_of_mem fun {a b} ha hb hne e => hne ?_
    obtain ⟨h1, h2, h3, h4⟩ := hok a ha
    obtain ⟨k1, k2, k3, k4⟩ := hok b hb
    obtain ⟨a1, a2⟩ := a
    obtain ⟨b1, b2⟩ := b
    simp only at h1 h2 h3 h4 k1 k2 k3 k4 e
    have e1 : a1 = b1 := by omega
    have e2 : a2 = b2 := by omega
    rw [e1, e2]) (fun x hx => by
    obtain ⟨p, hp, rfl⟩ := List.mem_map.1 hx
    obtain ⟨h1, h2, h3, h4⟩ := hok p hp
    omega)
  simpa using h
theorem ownsMap_tight {H : Type} {P : Program} {k : TypeId} {RR : Value → Option (DataW H × List MemPlace)} {w : World} {b n : Nat} {D : DataW H} (h : w.ownsMap P k RR b n D) : w.ownsMap P k RR b (Maps.size D) D := by
  obtain ⟨es, clock, hb, F, hs, rfl⟩ := h
  refine ⟨es, clock, hb, F, ?_, rfl⟩
  have e1 : es.size = ((es.toList.map (rg P k RR)).foldr DataW.insert []).length := by rw [length_sorted]; simp
  exact Nat.le_of_eq e1
/-- The map of block b counts rd. -/
def PMap (w : World) (b : Nat) (rd : Int → Int → Int) : Prop := ∃ (D : DataW Unit) (ps : List (Int × Int)), w.ownsMap Try.prog 183 (plainElem Try.prog 3) b ps.length D ∧ Maps.size D = ps.length ∧ ps.Nodup ∧ (∀ p ∈ ps, okP p.1 p.2) ∧
  (∀ kl, Maps.has D kl = true ↔ ∃ p ∈ ps, kl = keyP p.1 p.2) ∧ (∀ x y, okP x y → D.atKey (keyP x y) (.lit (.int .i64 0)) = .lit (.int .i64 (rd x y)))
theorem zeroI (w : World) : (zeroValue 3).run Try.prog w = .ok (.int .i64 0) w := by kernel_rfl
theorem pmap_made {w : World} {b : Nat} (h : w.heap[b]? = some (.map #[] 0)) : PMap w b (fun _ _ => 0) := by
  refine ⟨.map [], [], ?_, rfl, List.Pairwise.nil, fun e he => by simp at he, fun kl => by simp [Maps.has], fun x y _ => by simp [DataW.atKey]⟩
  obtain ⟨es0, clock, hb, rest⟩ := World.ownsMap_made (H := Unit) w Try.prog 183 (plainElem Try.prog 3)
  have e : (w.alloc (.map #[] 0)).heap[w.heap.size]? = some (.map #[] 0) := heap_alloc_new w _
  rw [e] at hb
  cases hb
  exact ⟨#[], 0, h, rest⟩
theorem PMap.lt {w : World} {b : Nat} {rd : Int → Int → Int} (h : PMap w b rd) : b < w.heap.size := by obtain ⟨D, ps, hown, _⟩ := h; exact hown.lt
theorem PMap.kept {w w' : World} {b : Nat} {rd : Int → Int → Int} (h : PMap w b rd) (hg : w'.heap[b]? = w.heap[b]?) : PMap w' b rd := by
  obtain ⟨D, ps, hown, r⟩ := h
  refine ⟨D, ps, ?_, r⟩
  obtain ⟨es0, clock, hb, rest⟩ := hown
  exact ⟨es0, clock, hg.trans hb, rest⟩
theorem PMap.get {w : World} {b : Nat} {rd : Int → Int → Int} (h : PMap w b rd) {x y : Int} (hk : okP x y) : (Instr.lookup 76 (.map (some b)) (aggP x y) false).run Try.prog w = .ok (.int .i64 (rd x y)) w := by
  obtain ⟨D, ps, hown, hsz, hnd, hok, hhas, hat⟩ := h
  obtain ⟨c, hrun, h1, _⟩ := hown.lookup_int lawP Try.underlying76 Try.underlying3 (zeroI _) (keyP_of hk)
  rw [hat x y hk] at h1
  cases h1
  exact hrun
def updP (rd : Int → Int → Int) (x y c : Int) (x' y' : Int) : Int := if x' = x ∧ y' = y then c else rd x' y'
theorem updP_same (rd : Int → Int → Int) (x y c : Int) : updP rd x y c x y = c := if_pos ⟨rfl, rfl⟩
theorem PMap.put {w : World} {b : Nat} {rd : Int → Int → Int} (h : PMap w b rd) {x y c : Int} (hk : okP x y) (hc : (Lit.int .i64 c).wf = true) :
    ∃ w', (Instr.mapUpdate 76 (.map (some b)) (aggP x y) (.int .i64 c)).run Try.prog w = .ok () w' ∧ PMap w' b (updP rd x y c) ∧ w.grownBy w' (some b) := by
  obtain ⟨D, ps, hown, hsz, hnd, hok, hhas, hat⟩ := h
  have hle := places_le ps hnd hok
  obtain ⟨w', hrun, hown', hg⟩ := hown.update lawP Try.underlying76 (by unfold maxLen; omega) (keyP_of hk) (plainElem_int Try.underlying3 hc)
  have hlit := keyP_lit hk
  have hM := hown.isMap
  have hat' : ∀ x' y', okP x' y' → (D.put (keyP x y) (.lit (.int .i64 c))).atKey (keyP x' y') (.lit (.int .i64 0)) = .lit (.int .i64 (updP rd x y c x' y')) := by
    intro x' y' hk'
    by_cases e : keyP x' y' = keyP x y
    · obtain ⟨rfl, rfl⟩ := keyP_inj hk' hk e
      rw [atKey_put_same hM hlit, updP_same]
    · rw [atKey_put_other e, hat x' y' hk']
      unfold updP
      rw [if_neg (fun h => e (by rw [h.1, h.2]))]
  refine ⟨w', hrun, ?_, hg⟩
  have ht := ownsMap_tight hown'
  by_cases hin : (x, y) ∈ ps
  · have hh : Maps.has D (keyP x y) = true := (hhas _).2 ⟨_, hin, rfl⟩
    have hsz' : Maps.size (D.put (keyP x y) (.lit (.int .i64 c))) = ps.length := by
      rw [size_put (hown.tidy lawP), hh, hsz]
      simp
    rw [hsz'] at ht
    refine ⟨_, ps, ht, hsz', hnd, hok, fun kl => ?_, hat'⟩
    by_cases e : kl = keyP x y
    · subst e
      exact ⟨fun _ => ⟨_, hin, rfl⟩, fun _ => has_put_same hM hlit _⟩
    · rw [has_put_other e, hhas]
  · have hh : Maps.has D (keyP x y) = false := by
      cases h1 : Maps.has D (keyP x y) with
      | false => rfl
      | true =>
        obtain ⟨p, hp, e⟩ := (hhas _).1 h1
        obtain ⟨e1, e2⟩ := keyP_inj hk (hok p hp) e
        exact absurd (by rw [e1, e2]; exact hp) hin
    have hsz' : Maps.size (D.put (keyP x y) (.lit (.int .i64 c))) = (ps ++ [(x, y)]).length := by
      rw [size_put (hown.tidy lawP), hh, hsz]
      simp
    rw [hsz'] at ht
    refine ⟨_, ps ++ [(x, y)], ht, hsz', ?_, ?_, fun kl => ?_, hat'⟩
    · rw [List.nodup_append]
      refine ⟨hnd, by simp, fun a ha b hb => ?_⟩
      rw [List.mem_singleton] at hb
      subst hb
      exact fun e => hin (e ▸ ha)
    · intro p hp
      rcases List.mem_append.1 hp with hp | hp
      · exact hok p hp
      · rw [List.mem_singleton] at hp
        subst hp
        exact hk
    · by_cases e : kl = keyP x y
      · subst e
        exact ⟨fun _ => ⟨(x, y), by simp, rfl⟩, fun _ => has_put_same hM hlit _⟩
      · rw [has_put_other e, hhas]
        constructor
        · rintro ⟨p, hp, rfl⟩
          exact ⟨p, List.mem_append_left _ hp, rfl⟩
        · rintro ⟨p, hp, rfl⟩
          rcases List.mem_append.1 hp with hp | hp
          · exact ⟨p, hp, rfl⟩
          · rw [List.mem_singleton] at hp
            subst hp
            exact absurd rfl e
theorem klP : WideMaps.KeyLaw Try.prog 183 := deep_law_gate laidOutT (of_decide_eq_true (by kernel_rfl)) (of_decide_eq_true (by kernel_rfl)) keyTypeP (by kernel_rfl)
theorem setBlock_inj {w : World} {b : Nat} {o o' : Obj} {es : Array MapEntry} {clock : Nat} (hb : w.heap[b]? = some (.map es clock)) (h : setBlock w b o = setBlock w b o') : o = o' := by
  have h1 := heap_setBlock_same hb o
  rw [h, heap_setBlock_same hb o'] at h1
  exact (Option.some.inj h1).symm
theorem setBlock_grown {w : World} {b : Nat} {es : Array MapEntry} {clock : Nat} (hb : w.heap[b]? = some (.map es clock)) (o : Obj) : w.grownBy (setBlock w b o) (some b) := ⟨rfl, rfl, rfl, by simp [setBlock], fun i _ hi => heap_setBlock_other hb _ (fun e => hi (by rw [e]))⟩
/-- 'm[k]++' in its parts: the entry is made ready, and what is put into it is what a plain put would leave. -/
theorem PMap.bump {w : World} {b : Nat} {rd : Int → Int → Int} (h : PMap w b rd) {x y : Int} (hk : okP x y) : ∃ (v0 : Value) (st : Nat) (w1 : World),
    (Instr.mapEntry 76 (.map (some b)) (aggP x y)).run Try.prog w = .ok (.tuple #[v0, goInt st]) w1 ∧ PMap w1 b rd ∧ w.grownBy w1 (some b) ∧ w1.heap.size = w.heap.size ∧
      ∀ c, (Lit.int .i64 c).wf = true → ∀ w2 : World, w2.heap[b]? = w1.heap[b]? → ∃ w3, (Instr.entryStore 76 (.map (some b)) (goInt st) (.int .i64 c)).run Try.prog w2 = .ok () w3 ∧ PMap w3 b (updP rd x y c) ∧ w2.grownBy w3 (some b) ∧ w3.heap.size = w2.heap.size := by
  have h0 := h
  obtain ⟨D, ps, hown, hsz, hnd, hok, hhas, hat⟩ := h
  obtain ⟨es, clock, hb, F, hs, rfl⟩ := hown
  obtain ⟨v0, st, es1, clock1, h1, h2, h3⟩ := entry_then_store klP Try.underlying76 (z := .int .i64 0) (fun u => zeroI u) hb F (keyP_of hk)
  have hg1 := setBlock_grown hb (.map es1 clock1)
  have hs1 : (setBlock w b (.map es1 clock1)).heap.size = w.heap.size := by simp [setBlock]
  have hb1 : (setBlock w b (.map es1 clock1)).heap[b]? = some (.map es1 clock1) := heap_setBlock_same hb _
  have hP1 : PMap (setBlock w b (.map es1 clock1)) b rd := by
    rcases fit_look false lawP Try.underlying76 (zeroI w) hb F (keyP_of hk) with ⟨hrun, hno, hat0⟩ | ⟨e0, y0, he0, hek, _⟩
    · -- the entry is new: nought is put
      have hr0 : rd x y = 0 := by
        have := h0.get hk
        rw [hrun] at this
        simpa using this.symm
      rcases klP.find w (keyP_of hk) es.toList F.keys with ⟨hf, _⟩ | ⟨j, e0, _, hj, hek⟩
      · have hrun2 : (Instr.mapEntry 76 (.map (some b)) (aggP x y)).run Try.prog w = .ok (.tuple #[.int .i64 0, goInt clock]) (setBlock w b (.map (es.push ⟨aggP x y, .int .i64 0, clock⟩) (clock + 1))) := by
          simp [Instr.mapEntry, run_underlying Try.underlying76, MapKept.run_getObj_map hb, klP.check w false (keyP_of hk), hf, zeroI, MapKept.run_setObj_map _ hb, Result.andThen, setBlock]
        have hrun3 : (Instr.mapUpdate 76 (.map (some b)) (aggP x y) (.int .i64 0)).run Try.prog w = .ok () (setBlock w b (.map (es.push ⟨aggP x y, .int .i64 0, clock⟩) (clock + 1))) := by
          simp [Instr.mapUpdate, run_underlying Try.underlying76, MapKept.run_getObj_map hb, klP.check w false (keyP_of hk), hf, MapKept.run_setObj_map _ hb, Result.andThen, setBlock]
        rw [h1] at hrun2
        have e1 := setBlock_inj hb (Result.ok.inj hrun2).2
        obtain ⟨w', hr', hp', _⟩ := h0.put hk (c := 0) (wfI (by omega) (by omega))
        rw [hrun3] at hr'
        have e2 := (Result.ok.inj hr').2
        rw [e1, e2]
        have e3 : updP rd x y 0 = rd := by
          funext x' y'
          unfold updP
          split
          · rename_i hxy
            rw [hxy.1, hxy.2, hr0]
          · rfl
        rw [e3] at hp'
        exact hp'
      · exact absurd hek (hno e0 (List.mem_of_getElem? hj))
    · -- it is there already
      rcases klP.find w (keyP_of hk) es.toList F.keys with ⟨_, hno⟩ | ⟨j, e0', hf, hj, hek'⟩
      · exact absurd hek (hno e0 he0)
      · have hj' : es[j]? = some e0' := by simpa using hj
        have hsame : es.modify j (fun e => { e with key := aggP x y }) = es := by
          apply Array.ext'
          rw [Array.toList_modify, modify_eq_set _ _ _ _ hj]
          have : ({ e0' with key := aggP x y } : MapEntry) = e0' := by rw [← hek']
          rw [this]
          exact set_self _ _ _ hj
        have hrun2 : (Instr.mapEntry 76 (.map (some b)) (aggP x y)).run Try.prog w = .ok (.tuple #[e0'.val, goInt e0'.born]) (setBlock w b (.map es clock)) := by
          simp [Instr.mapEntry, run_underlying Try.underlying76, MapKept.run_getObj_map hb, klP.check w false (keyP_of hk), hf, hj', hek', klP.stays w (keyP_of hk), hsame, MapKept.run_setObj_map _ hb, Result.andThen, setBlock]
        rw [h1] at hrun2
        have e1 := setBlock_inj hb (Result.ok.inj hrun2).2
        exact h0.kept (by rw [hb1, hb]; exact congrArg some e1)
  refine ⟨v0, st, _, h1, hP1, hg1, hs1, fun c hc w2 hw2 => ?_⟩
  have hw2' : w2.heap[b]? = some (.map es1 clock1) := hw2.trans hb1
  obtain ⟨es', clock', k1, k2⟩ := h3 w2 (.int .i64 c) hw2'
  obtain ⟨w', hr', hp', _⟩ := h0.put hk hc
  rw [k2] at hr'
  have e2 := (Result.ok.inj hr').2
  refine ⟨_, k1, ?_, setBlock_grown hw2' _, by simp [setBlock]⟩
  rw [← e2] at hp'
  exact hp'.kept (by rw [heap_setBlock_same hw2', heap_setBlock_same hb])
end Go.Proofs.Ytkhejipcclpknaa
