/- The space's cut: a hole loses an extent. No statement is proved here. -/
import Derived.Test.YtkhejipcclpknaaExtA
import Derived.Test.YtkhejipcclpknaaExtJ
import Derived.Test.YtkhejipcclpknaaExtI
set_option linter.unusedVariables false
set_option linter.unusedSimpArgs false
namespace Go.Proofs.Ytkhejipcclpknaa
open Go.RowKit

/-- Replace of one element by at most two. -/
theorem replace_any (w : World) (g cap : Nat) (cur : Array Value) (hs ys : List (Int × Int)) (rv : Value) (i k : Nat) (hn : hs.length = i + 1 + k)
    (hg : w.heap[g]? = some (.cells cur 83 (0, 0))) (hnc : hs.length ≤ cap) (hcm : cap ≤ maxLen) (hcs : cur.size = cap * 2) (htk : cur.toList.take (hs.length * 2) = cells2 hs)
    (hro : w.ownsRow 0 83 2 rv ys.length (cells2 ys)) (hrg : rv.ownBlock ≠ some g) (hy : ys.length ≤ 2) (hsm : hs.length ≤ 10000) (hnil : ys = [] → rv = .slice none 0 0) :
    Calls Try.prog 66 #[.slice (some ⟨g, 0, none⟩) (i + 1 + k) cap, .int .i64 i, .int .i64 ((i : Int) + 1), rv] w (Owned w g (hs.take i ++ ys ++ hs.drop (i + 1))) := by
  by_cases h0 : ys = []
  · rw [hnil h0]
    subst h0
    rw [List.append_nil]
    by_cases hk : k = 0
    · subst hk
      rw [List.drop_of_length_le (by omega), List.append_nil]
      exact replace_last0 w g cap cur hs i (by omega) hg hnc hcm hcs htk
    · exact replace_in0 w g cap cur hs i k hn (by omega) hg hnc hcm hcs htk
  · have hpos : 0 < ys.length := List.length_pos_iff.2 h0
    rcases hro.2 with ⟨_, hz⟩ | ⟨r, rc, rcur, rfl, _, hr, _, _, _, hry⟩
    · omega
    · have hne : r ≠ g := fun e => hrg (by simp [Value.ownBlock, e])
      by_cases hk : k = 0
      · subst hk
        rw [List.drop_of_length_le (show hs.length ≤ i + 1 by omega), List.append_nil]
        have : ys.length = 1 ∨ ys.length = 2 := by omega
        rcases this with h1 | h2
        · rw [h1]; exact replace_last1 w g cap r rc cur rcur hs ys i (by omega) hg hnc hcm hcs htk hne hr hry h1
        · rw [h2]; exact replace_last2 w g cap r rc cur rcur hs ys i (by omega) hg hnc hcm hcs htk hne hr hry h2 hsm
      · have : ys.length = 1 ∨ ys.length = 2 := by omega
        rcases this with h1 | h2
        · rw [h1]; exact replace_in1 w g cap r rc cur rcur hs ys i k hn hg hnc hcm hcs htk hne hr hry (by omega) h1
        · rw [h2]; exact replace_in2 w g cap r rc cur rcur hs ys i k hn hg hnc hcm hcs htk hne hr hry (by omega) h2 hsm

/-- What a method of the space may do to memory. -/
structure SpStep (w w' : World) (p : Nat) (o o' : Option Nat) : Prop where
  upd : Upd (fun k => k = p ∨ o = some k) w w'
  new : ∀ k, o' = some k → o = some k ∨ w.heap.size ≤ k

theorem SpStep.refl (w : World) (p : Nat) (o : Option Nat) : SpStep w w p o o := ⟨Upd.refl _ _, fun _ h => .inl h⟩
theorem SpStep.trans {a b c : World} {p : Nat} {o o1 o2 : Option Nat} (h : SpStep a b p o o1) (k : SpStep b c p o1 o2) : SpStep a c p o o2 := by
  refine ⟨h.upd.trans k.upd ?_, fun i hi => ?_⟩
  · rintro i hi (rfl | hi2)
    · exact .inl rfl
    · rcases h.new i hi2 with h1 | h1
      · exact .inr h1
      · omega
  · rcases k.new i hi with h1 | h1
    · exact h.new i h1
    · exact .inr (Nat.le_trans h.upd.size h1)
theorem SpStep.of_below {a b : World} {p : Nat} {o : Option Nat} (h : Below a.heap.size a b) : SpStep a b p o o := ⟨Upd.of_new h, fun _ hk => .inl hk⟩

/-- The space behind a method that answers r. -/
def SpPost (w : World) (p : Nat) (o : Option Nat) (n : Int) (hs : List (Int × Int)) (r : Value) (e : Ending) (w' : World) : Prop :=
  e = .returned r ∧ ∃ o', Sp w' p o' n hs ∧ SpStep w w' p o o'

/-- The store of a new slice into the space. -/
theorem sp_store {w1 : World} {p : Nat} {n : Int} {hs : List (Int × Int)} {g' cap' : Nat} {cur' : Array Value} {v : Value} (hp : w1.heap[p]? = some (.cells #[.int .i64 n, v] 81 (0, 0)))
    (hg' : w1.heap[g']? = some (.cells cur' 83 (0, 0))) (hne : g' ≠ p) (hnc : hs.length ≤ cap') (hcm : cap' ≤ maxLen) (hcs : cur'.size = cap' * 2) (htk : cur'.toList.take (hs.length * 2) = cells2 hs)
    (h0 : 0 ≤ n) (h1 : n ≤ 4096) (hok : okFrom 0 n hs) : Sp (w1.setCell ⟨p, 1, none⟩ (.slice (some ⟨g', 0, none⟩) hs.length cap')) p (some g') n hs := by
  refine ⟨⟨.slice (some ⟨g', 0, none⟩) hs.length cap', rfl, ?_, ?_⟩, fun e => hne (by simpa using e), h0, h1, hok⟩
  · exact heap_setCell_same w1 p 1 _ _ _ hp
  · exact ⟨cells2_length hs, .inr ⟨g', cap', cur', rfl, Nat.zero_le _, (heap_setCell_other w1 ⟨p, 1, none⟩ g' _ hne).trans hg', hnc, hcm, hcs, htk⟩⟩

/-- append of extents onto an own slice of extents, for the walk. -/
theorem wpList_append_E {w : World} {ops : Array Oper} {rest : List Oper} {o : Oper} {a : Act} {Q : Exit → Act → World → Prop} (hgd : o.guard = none) (s x : Operand)
    (ho : o.op = .call { callee := .builtin .append, args := #[s, x], argTypes := #[79, 79] }) (v : Value) (hs : a.eval s = v) (xs ys : List (Int × Int)) (hown : w.ownsRow 0 83 2 v xs.length (cells2 xs))
    (r ro m rc : Nat) (hx : a.eval x = .slice (some ⟨r, ro, none⟩) m rc) (hm : m = ys.length) (hys : ∀ j u, (cells2 ys)[j]? = some u → w.cell? ((⟨r, ro, none⟩ : Addr).add j) = some u) (h63 : xs.length + ys.length ≤ 1000000)
    (h : ∀ v' w', w'.ownsRow 0 83 2 v' (xs ++ ys).length (cells2 (xs ++ ys)) → w.grownBy w' v.ownBlock → (v'.ownBlock = v.ownBlock ∨ v'.ownBlock = some w.heap.size) → wpList Try.prog ops Q rest (a.put o.dst v') w') :
    wpList Try.prog ops Q (o :: rest) a w := by
  subst hm
  obtain ⟨v', w', hrun, h1, h2, h3⟩ := run_append_E w o.type v xs ys hown r ro rc hys h63
  exact wpList_append_run w hgd s x _ _ ho _ _ hs hx hrun (h v' w' h1 h2 h3)

theorem pair_cells {w : World} {b : Nat} {x y : Int} {t : TypeId} {f : Nat × Nat} (hb : w.heap[b]? = some (.cells #[.int .i64 x, .int .i64 y] t f)) : ∀ j u, (cells2 [(x, y)])[j]? = some u → w.cell? ((⟨b, 0, none⟩ : Addr).add j) = some u := by
  intro j u hj
  rw [Addr.add_lit, blk_cell hb]
  match j, hj with
  | 0, hj => simpa [cells2] using hj
  | 1, hj => simpa [cells2] using hj
  | j + 2, hj => simp [cells2] at hj

theorem own_slice {w : World} {v : Value} {n : Nat} {xs : List Value} (h : w.ownsRow 0 83 2 v n xs) (hn : 0 < n) : ∃ r rc, v = .slice (some ⟨r, 0, none⟩) n rc := by
  rcases h.2 with ⟨_, h0⟩ | ⟨g, cap, cur, rfl, _⟩
  · omega
  · exact ⟨g, cap, rfl⟩

/-- What stands at the call of Replace, and what follows from its contract. -/
theorem cut_end {w w2 w3 : World} {p g g' cap' : Nat} {n : Int} {v : Value} {hs' : List (Int × Int)} {cur' : Array Value} (hpb : w.heap[p]? = some (.cells #[.int .i64 n, v] 81 (0, 0))) (hpg : p ≠ g)
    (hb : Below w.heap.size w w2) (hg' : g' = g ∨ w2.heap.size ≤ g') (hgl : g < w.heap.size) (hrow : w3.heap[g']? = some (.cells cur' 83 (0, 0))) (hnc : hs'.length ≤ cap') (hcm : cap' ≤ maxLen) (hcs : cur'.size = cap' * 2) (htk : cur'.toList.take (hs'.length * 2) = cells2 hs')
    (hu : Upd (fun k => k = g) w2 w3) (h0 : 0 ≤ n) (h1 : n ≤ 4096) (hok : okFrom 0 n hs') :
    w3.cell? ⟨p, 1, none⟩ = some v ∧ w3.frozen? ⟨p, 1, none⟩ = false ∧
      SpPost w p (some g) n hs' (.tuple #[]) (.returned (.tuple #[])) (w3.setCell ⟨p, 1, none⟩ (.slice (some ⟨g', 0, none⟩) hs'.length cap')) := by
  have hpl := blk_lt hpb
  have hp3 : w3.heap[p]? = some (.cells #[.int .i64 n, v] 81 (0, 0)) := (hu.block p (Nat.lt_of_lt_of_le hpl hb.size) hpg).trans ((hb.block p hpl).trans hpb)
  refine ⟨by simpa using blk_cell hp3 1, blk_free hp3 1, rfl, some g', sp_store hp3 hrow ?_ hnc hcm hcs htk h0 h1 hok, ?_, ?_⟩
  · have := hb.size; omega
  · refine Upd.setCell ?_ (fun _ => .inl rfl) _
    exact ⟨hu.os.trans hb.os, hu.tape.trans hb.tape, hu.output.trans hb.output, Nat.le_trans hb.size hu.size, fun k hk hs =>
      (hu.block k (Nat.lt_of_lt_of_le hk hb.size) (fun e => hs (.inr (by rw [e])))).trans (hb.block k hk)⟩
  · intro k hk
    simp at hk
    subst hk
    rcases hg' with rfl | h
    · exact .inl rfl
    · exact .inr (Nat.le_trans hb.size h)

set_option maxHeartbeats 1000000 in
set_option maxRecDepth 100000 in
theorem cut_any (p : Nat) (o : Option Nat) (n : Int) (A B : List (Int × Int)) (h e : Int × Int) (w : World) (hs : Sp w p o n (A ++ h :: B)) (h1 : h.1 ≤ e.1) (h2 : 1 ≤ e.2) (h3 : e.1 + e.2 ≤ h.1 + h.2) :
    Calls Try.prog 53 #[.pointer (some ⟨p, 0, none⟩), .int .i64 A.length, .agg #[.int .i64 e.1, .int .i64 e.2]] w (SpPost w p o n (A ++ restF h e ++ B) (.tuple #[])) := by
  obtain ⟨a, cap, c0, c1, f1, hp, ho, hob, own, hel, hcap, hcm⟩ := hs.open
  obtain ⟨v, hv, hpb, ownv⟩ := hs.ex
  have hn := hs.hn
  have hn0 := hs.n0
  have hn1 := hs.n1
  have hne := hs.ne
  have hok := hs.ok
  have hmem := hok.mem h (by simp)
  have hok' := cut_ok hok h1 h2 h3
  obtain ⟨i, hi⟩ : ∃ i, i = A.length := ⟨_, rfl⟩
  obtain ⟨k, hk⟩ : ∃ k, k = B.length := ⟨_, rfl⟩
  have hlen : (A ++ h :: B).length = i + 1 + k := by simp; omega
  obtain ⟨g, rfl, hog, e0, e1⟩ := hel i (by omega)
  have hget : (A ++ h :: B)[i]'(by omega) = h := by subst hi; simp
  rw [hget] at e0 e1
  rw [hlen] at c1 hn
  have hgl := ho g hog
  subst hog
  have hpg : p ≠ g := fun e => hne (by rw [e])
  rcases own.2 with ⟨hh, _⟩ | ⟨g0, cap0, cur, hv0, _, hg, hnc, _, hcs, htk⟩
  · simp at hh
  obtain ⟨rfl, rfl⟩ : g = g0 ∧ cap = cap0 := by simp at hv0; omega
  have htd : (A ++ h :: B).take i ++ restF h e ++ (A ++ h :: B).drop (i + 1) = A ++ restF h e ++ B := by
    subst hi
    rw [List.take_left, show A ++ h :: B = (A ++ [h]) ++ B by simp, List.drop_left' (by simp)]
  rw [← hi]
  clear hel hget hv0 hob own ho hne ownv hv
  -- Replace's contract, at whatever world and list
  have hrep : ∀ (w2 : World) (rv : Value), Below w.heap.size w w2 → w2.ownsRow 0 83 2 rv (restF h e).length (cells2 (restF h e)) → (∀ r, rv.ownBlock = some r → w.heap.size ≤ r) → (restF h e = [] → rv = .slice none 0 0) →
      Calls Try.prog 66 #[.slice (some ⟨g, 0, none⟩) (i + 1 + k) cap, .int .i64 i, .int .i64 ((i : Int) + 1), rv] w2 (Owned w2 g (A ++ restF h e ++ B)) := by
    intro w2 rv hb hro hrv hnil
    rw [← htd]
    refine replace_any w2 g cap cur _ (restF h e) rv i k hlen ((hb.block g hgl).trans hg) hnc hcm hcs htk hro (fun hh => ?_) ?_ (by omega) hnil
    · have := hrv g hh; omega
    · unfold restF; split <;> split <;> simp
  have Hi := hid hi
  have Hk := hid hk
  have Hok := hid hok'
  have Hrep := hid hrep
  have Hpb := hid hpb
  clear hi hk hlen hok hok' htd hrep hs hg hnc hcs htk hpb
  generalize hres : restF h e = rs at *
  have Hres := hid hres
  clear hres
  generalize hfull : A ++ rs ++ B = full at *
  clear hfull
  obtain ⟨f, fc⟩ := h
  obtain ⟨ef, ec⟩ := e
  simp only at h1 h2 h3 e0 e1 hmem ⊢
  by_cases d1 : f < ef <;> by_cases d2 : ef + ec < f + fc
  · have hrs : rs = [(f, ef - f), (ef + ec, f + fc - (ef + ec))] := by rw [← Hres.out]; simp [restF, d1, d2]
    have Hrs := hid hrs
    have hws : wrap64 (ef - f) = ef - f := by unfold wrap64; omega
    have hws2 : wrap64 (f + fc - (ef + ec)) = f + fc - (ef + ec) := by unfold wrap64; omega
    clear hrs
    have hb2 : Below w.heap.size w (((w.alloc (Obj.cells #[Value.int .i64 ef, Value.int .i64 ec] 83)).alloc (Obj.cells #[Value.int .i64 f, Value.int .i64 fc] 83)).alloc (Obj.cells #[Value.int .i64 (f), Value.int .i64 (ef - f)] 83)) := (((Below.refl _ _).alloc (Nat.le_refl _) _).alloc (by simp) _).alloc (by simp; omega) _
    have hsz2 : ((w.alloc (Obj.cells #[Value.int .i64 ef, Value.int .i64 ec] 83)).alloc (Obj.cells #[Value.int .i64 f, Value.int .i64 fc] 83)).heap.size = w.heap.size + 2 := by simp
    have hcl : ∀ j u, (cells2 [(f, ef - f)])[j]? = some u → (((w.alloc (Obj.cells #[Value.int .i64 ef, Value.int .i64 ec] 83)).alloc (Obj.cells #[Value.int .i64 f, Value.int .i64 fc] 83)).alloc (Obj.cells #[Value.int .i64 (f), Value.int .i64 (ef - f)] 83)).cell? ((⟨w.heap.size + 2, 0, none⟩ : Addr).add j) = some u := by
      have hx := heap_alloc_new ((w.alloc (Obj.cells #[Value.int .i64 ef, Value.int .i64 ec] 83)).alloc (Obj.cells #[Value.int .i64 f, Value.int .i64 fc] 83)) (Obj.cells #[Value.int .i64 (f), Value.int .i64 (ef - f)] 83)
      rw [hsz2] at hx
      exact pair_cells hx
    clear hsz2
    go_enter Try.func53, Try.ntmps53
    go_wp2_with (at_builtin; refine wpList_append_E rfl (.tmp 21) (.tmp 30) rfl _ rfl [] [(f, ef - f)] (World.ownsRow_nil _ _ _ _) _ 0 1 1 rfl rfl hcl (by simp) ?_)
    intro v' w1 hown hgr hblk
    obtain ⟨r, rc, rfl⟩ := own_slice hown (by simp)
    have hbs : Below (w.heap.size + 3) ((((w.alloc (Obj.cells #[Value.int .i64 ef, Value.int .i64 ec] 83)).alloc (Obj.cells #[Value.int .i64 f, Value.int .i64 fc] 83)).alloc (Obj.cells #[Value.int .i64 (f), Value.int .i64 (ef - f)] 83))) w1 := (Below.refl _ _).grown hgr (by simp) (fun k hk => by cases hk)
    have hb1 : Below w.heap.size w w1 := hb2.trans (hbs.mono (by omega))
    have hrb : w.heap.size + 3 ≤ r := by
      rcases hblk with h | h <;> simp [Value.ownBlock] at h <;> omega
    obtain ⟨hc, hf⟩ := bcell hbs
    have hsz1 : w.heap.size + 3 ≤ w1.heap.size := by have := hbs.size; simp at this; omega
    have hcl2 : ∀ j u, (cells2 [(ef + ec, f + fc - (ef + ec))])[j]? = some u → (w1.alloc (Obj.cells #[Value.int .i64 (ef + ec), Value.int .i64 (f + fc - (ef + ec))] 83)).cell? ((⟨w1.heap.size, 0, none⟩ : Addr).add j) = some u :=
      pair_cells (heap_alloc_new w1 _)
    have hown1 := hown.alloc (Obj.cells #[Value.int .i64 (ef + ec), Value.int .i64 (f + fc - (ef + ec))] 83)
    clear hown hcl hgr hblk hb2
    go_wp2_with (at_builtin; refine wpList_append_E rfl (.tmp 44) (.tmp 54) rfl _ rfl _ [(ef + ec, f + fc - (ef + ec))] hown1 _ 0 1 1 rfl rfl hcl2 (by simp) ?_)
    intro v2 w2 hown2 hgr2 hblk2
    obtain ⟨r2, rc2, rfl⟩ := own_slice hown2 (by simp)
    have hb3 : Below (w.heap.size + 3) (w1.alloc (Obj.cells #[Value.int .i64 (ef + ec), Value.int .i64 (f + fc - (ef + ec))] 83)) w2 := (Below.refl _ _).grown hgr2 (by simp; omega) (fun k hk => by simp [Value.ownBlock] at hk; omega)
    have hbs2 : Below (w.heap.size + 3) ((((w.alloc (Obj.cells #[Value.int .i64 ef, Value.int .i64 ec] 83)).alloc (Obj.cells #[Value.int .i64 f, Value.int .i64 fc] 83)).alloc (Obj.cells #[Value.int .i64 (f), Value.int .i64 (ef - f)] 83))) w2 := ((hbs.alloc hsz1 _).trans hb3)
    have hb : Below w.heap.size w w2 := (hb1.alloc (by omega) _).trans (hb3.mono (by omega))
    have hrb2 : w.heap.size ≤ r2 := by
      rcases hblk2 with h | h <;> simp [Value.ownBlock] at h <;> omega
    clear hc hf
    have hc1 := (hb.cell (p := ⟨p, 1, none⟩) hp).trans c1
    have Hown := hid hown2
    clear hown1 hown2 hcl2 hgr2 hblk2 hbs hbs2 hb3 hb1
    go_wp2_with fail
    refine (Hrep.out _ _ hb (by rw [Hrs.out]; exact Hown.out) (by intro j hj; simp [Value.ownBlock] at hj; omega) (fun h => by rw [Hrs.out] at h; cases h)).mono ?_
    rintro e w3 ⟨g', cap', cur', rfl, hg', hrow, hnc, hcm', hcs, htk, hu⟩
    obtain ⟨k1, k2, k3⟩ := cut_end Hpb.out hpg hb hg' hgl hrow hnc hcm' hcs htk hu hn0 hn1 Hok.out
    have K3 := hid k3
    clear k3 hb hu htk hcs hrow
    go_wp2
    go_end0
    exact K3.out
  · have hrs : rs = [(f, ef - f)] := by rw [← Hres.out]; simp [restF, d1, d2]
    have Hrs := hid hrs
    have hws : wrap64 (ef - f) = ef - f := by unfold wrap64; omega
    clear hrs
    have hb2 : Below w.heap.size w (((w.alloc (Obj.cells #[Value.int .i64 ef, Value.int .i64 ec] 83)).alloc (Obj.cells #[Value.int .i64 f, Value.int .i64 fc] 83)).alloc (Obj.cells #[Value.int .i64 (f), Value.int .i64 (ef - f)] 83)) := (((Below.refl _ _).alloc (Nat.le_refl _) _).alloc (by simp) _).alloc (by simp; omega) _
    have hsz2 : ((w.alloc (Obj.cells #[Value.int .i64 ef, Value.int .i64 ec] 83)).alloc (Obj.cells #[Value.int .i64 f, Value.int .i64 fc] 83)).heap.size = w.heap.size + 2 := by simp
    have hcl : ∀ j u, (cells2 [(f, ef - f)])[j]? = some u → (((w.alloc (Obj.cells #[Value.int .i64 ef, Value.int .i64 ec] 83)).alloc (Obj.cells #[Value.int .i64 f, Value.int .i64 fc] 83)).alloc (Obj.cells #[Value.int .i64 (f), Value.int .i64 (ef - f)] 83)).cell? ((⟨w.heap.size + 2, 0, none⟩ : Addr).add j) = some u := by
      have hx := heap_alloc_new ((w.alloc (Obj.cells #[Value.int .i64 ef, Value.int .i64 ec] 83)).alloc (Obj.cells #[Value.int .i64 f, Value.int .i64 fc] 83)) (Obj.cells #[Value.int .i64 (f), Value.int .i64 (ef - f)] 83)
      rw [hsz2] at hx
      exact pair_cells hx
    clear hsz2
    go_enter Try.func53, Try.ntmps53
    go_wp2_with (at_builtin; refine wpList_append_E rfl (.tmp 21) (.tmp 30) rfl _ rfl [] [(f, ef - f)] (World.ownsRow_nil _ _ _ _) _ 0 1 1 rfl rfl hcl (by simp) ?_)
    intro v' w2 hown hgr hblk
    obtain ⟨r, rc, rfl⟩ := own_slice hown (by simp)
    have hbs : Below (w.heap.size + 3) (((w.alloc (Obj.cells #[Value.int .i64 ef, Value.int .i64 ec] 83)).alloc (Obj.cells #[Value.int .i64 f, Value.int .i64 fc] 83)).alloc (Obj.cells #[Value.int .i64 (f), Value.int .i64 (ef - f)] 83)) w2 := (Below.refl _ _).grown hgr (by simp) (fun k hk => by cases hk)
    have hb : Below w.heap.size w w2 := hb2.trans (hbs.mono (by omega))
    have hrb : w.heap.size ≤ r := by
      rcases hblk with h | h <;> simp [Value.ownBlock] at h <;> omega
    obtain ⟨hc, hf⟩ := bcell hbs
    have hc1 := (hb.cell (p := ⟨p, 1, none⟩) hp).trans c1
    have Hown := hid hown
    clear hown hcl hgr hblk hbs
    go_wp2_with fail
    refine (Hrep.out _ _ hb (by rw [Hrs.out]; exact Hown.out) (by intro j hj; simp [Value.ownBlock] at hj; omega) (fun h => by rw [Hrs.out] at h; cases h)).mono ?_
    rintro e w3 ⟨g', cap', cur', rfl, hg', hrow, hnc, hcm', hcs, htk, hu⟩
    obtain ⟨k1, k2, k3⟩ := cut_end Hpb.out hpg hb hg' hgl hrow hnc hcm' hcs htk hu hn0 hn1 Hok.out
    have K3 := hid k3
    clear k3 hb hu htk hcs hrow
    go_wp2
    go_end0
    exact K3.out
  · have hrs : rs = [(ef + ec, f + fc - (ef + ec))] := by rw [← Hres.out]; simp [restF, d1, d2]
    have Hrs := hid hrs
    have hws : wrap64 (f + fc - (ef + ec)) = f + fc - (ef + ec) := by unfold wrap64; omega
    clear hrs
    have hb2 : Below w.heap.size w (((w.alloc (Obj.cells #[Value.int .i64 ef, Value.int .i64 ec] 83)).alloc (Obj.cells #[Value.int .i64 f, Value.int .i64 fc] 83)).alloc (Obj.cells #[Value.int .i64 (ef + ec), Value.int .i64 (f + fc - (ef + ec))] 83)) := (((Below.refl _ _).alloc (Nat.le_refl _) _).alloc (by simp) _).alloc (by simp; omega) _
    have hsz2 : ((w.alloc (Obj.cells #[Value.int .i64 ef, Value.int .i64 ec] 83)).alloc (Obj.cells #[Value.int .i64 f, Value.int .i64 fc] 83)).heap.size = w.heap.size + 2 := by simp
    have hcl : ∀ j u, (cells2 [(ef + ec, f + fc - (ef + ec))])[j]? = some u → (((w.alloc (Obj.cells #[Value.int .i64 ef, Value.int .i64 ec] 83)).alloc (Obj.cells #[Value.int .i64 f, Value.int .i64 fc] 83)).alloc (Obj.cells #[Value.int .i64 (ef + ec), Value.int .i64 (f + fc - (ef + ec))] 83)).cell? ((⟨w.heap.size + 2, 0, none⟩ : Addr).add j) = some u := by
      have hx := heap_alloc_new ((w.alloc (Obj.cells #[Value.int .i64 ef, Value.int .i64 ec] 83)).alloc (Obj.cells #[Value.int .i64 f, Value.int .i64 fc] 83)) (Obj.cells #[Value.int .i64 (ef + ec), Value.int .i64 (f + fc - (ef + ec))] 83)
      rw [hsz2] at hx
      exact pair_cells hx
    clear hsz2
    go_enter Try.func53, Try.ntmps53
    go_wp2_with (at_builtin; refine wpList_append_E rfl (.tmp 44) (.tmp 54) rfl _ rfl [] [(ef + ec, f + fc - (ef + ec))] (World.ownsRow_nil _ _ _ _) _ 0 1 1 rfl rfl hcl (by simp) ?_)
    intro v' w2 hown hgr hblk
    obtain ⟨r, rc, rfl⟩ := own_slice hown (by simp)
    have hbs : Below (w.heap.size + 3) (((w.alloc (Obj.cells #[Value.int .i64 ef, Value.int .i64 ec] 83)).alloc (Obj.cells #[Value.int .i64 f, Value.int .i64 fc] 83)).alloc (Obj.cells #[Value.int .i64 (ef + ec), Value.int .i64 (f + fc - (ef + ec))] 83)) w2 := (Below.refl _ _).grown hgr (by simp) (fun k hk => by cases hk)
    have hb : Below w.heap.size w w2 := hb2.trans (hbs.mono (by omega))
    have hrb : w.heap.size ≤ r := by
      rcases hblk with h | h <;> simp [Value.ownBlock] at h <;> omega
    obtain ⟨hc, hf⟩ := bcell hbs
    have hc1 := (hb.cell (p := ⟨p, 1, none⟩) hp).trans c1
    have Hown := hid hown
    clear hown hcl hgr hblk hbs
    go_wp2_with fail
    refine (Hrep.out _ _ hb (by rw [Hrs.out]; exact Hown.out) (by intro j hj; simp [Value.ownBlock] at hj; omega) (fun h => by rw [Hrs.out] at h; cases h)).mono ?_
    rintro e w3 ⟨g', cap', cur', rfl, hg', hrow, hnc, hcm', hcs, htk, hu⟩
    obtain ⟨k1, k2, k3⟩ := cut_end Hpb.out hpg hb hg' hgl hrow hnc hcm' hcs htk hu hn0 hn1 Hok.out
    have K3 := hid k3
    clear k3 hb hu htk hcs hrow
    go_wp2
    go_end0
    exact K3.out
  · have hrs : rs = [] := by rw [← Hres.out]; simp [restF, d1, d2]
    have Hrs := hid hrs
    clear hrs
    go_enter Try.func53, Try.ntmps53
    go_wp2_with fail
    have hb : Below w.heap.size w ((w.alloc (Obj.cells #[Value.int .i64 ef, Value.int .i64 ec] 83)).alloc (Obj.cells #[Value.int .i64 f, Value.int .i64 fc] 83)) := ((Below.refl _ _).alloc (Nat.le_refl _) _).alloc (by simp) _
    refine (Hrep.out _ _ hb (by rw [Hrs.out]; exact World.ownsRow_nil _ _ _ _) (by intro r hr; cases hr) (fun _ => rfl)).mono ?_
    rintro e w3 ⟨g', cap', cur', rfl, hg', hrow, hnc, hcm', hcs, htk, hu⟩
    obtain ⟨k1, k2, k3⟩ := cut_end Hpb.out hpg hb hg' hgl hrow hnc hcm' hcs htk hu hn0 hn1 Hok.out
    have K3 := hid k3
    clear k3 hb hu htk hcs hrow
    go_wp2
    go_end0
    exact K3.out

end Go.Proofs.Ytkhejipcclpknaa
