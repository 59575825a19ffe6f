/- Two spaces and the document's space side by side. No statement is proved here. -/
import Derived.Test.YtedalcocdgmigaaRefF
import Derived.Test.YtedalcocdgmigaaPlays
set_option linter.unusedVariables false
set_option linter.unusedSimpArgs false
namespace Go.Proofs.Ytedalcocdgmigaa
open Go.RowKit

structure Tri (B : Nat) (w : World) (p : Nat) (o : Option Nat) (p2 : Nat) (o2 : Option Nat) (n : Int) (hs ht : List (Int × Int)) (r u : Nat) (us : List Bool) : Prop where
  two : Two B w p o n hs r u us
  sp2 : Sp w p2 o2 n ht
  pp : p ≠ p2
  pr : r ≠ p2
  pu : u ≠ p2
  op : o ≠ some p2
  qp : o2 ≠ some p
  qr : o2 ≠ some r
  qu : o2 ≠ some u
  oo : ∀ k, o = some k → o2 ≠ some k
  bp : SpNew B p2 o2
/-- A block aside: a box of the walk. -/
structure Box (w : World) (p : Nat) (o : Option Nat) (p2 : Nat) (o2 : Option Nat) (u b : Nat) (obj : Obj) : Prop where
  hp : b ≠ p
  hp2 : b ≠ p2
  hu : b ≠ u
  ho : o ≠ some b
  ho2 : o2 ≠ some b
  hb : w.heap[b]? = some obj
  hl : b < w.heap.size

section
variable {B : Nat} {w w' : World} {p p2 r u b : Nat} {o o' o2 o2' : Option Nat} {n : Int} {hs hs' ht ht' : List (Int × Int)} {us us' : List Bool} {obj : Obj}

theorem Tri.below (t : Tri B w p o p2 o2 n hs ht r u us) (hb : Below w.heap.size w w') : Tri B w' p o p2 o2 n hs ht r u us :=
  ⟨t.two.below hb, t.sp2.below hb, t.pp, t.pr, t.pu, t.op, t.qp, t.qr, t.qu, t.oo, t.bp⟩
theorem Tri.tstep (t : Tri B w p o p2 o2 n hs ht r u us) (h : SpStep w w' p2 o2 o2') (hsp : Sp w' p2 o2' n ht') (hB : B ≤ w.heap.size) : Tri B w' p o p2 o2' n hs ht' r u us ∧ Below B w w' := by
  obtain ⟨a1, a2⟩ := h.aside t.pp t.qp t.two.sp.lt.1
  obtain ⟨b1, b2⟩ := h.aside t.pr t.qr t.two.rf.open.1
  obtain ⟨c1, c2⟩ := h.aside t.pu t.qu t.two.rf.open.2.1
  have hk : ∀ k, o = some k → o2' ≠ some k ∧ w'.heap[k]? = w.heap[k]? := fun k hk => h.aside (fun e => t.op (by rw [hk, e])) (t.oo k hk) (t.two.sp.lt.2 k hk)
  obtain ⟨d1, d2⟩ := t.bp.step h hB
  exact ⟨⟨⟨t.two.sp.kept a2 (fun k h1 => (hk k h1).2), t.two.rf.kept b2 c2, t.two.ag, t.two.pr, t.two.pu, t.two.or, t.two.ou, t.two.bp, t.two.br, t.two.bu⟩, hsp, t.pp, t.pr, t.pu, t.op, a1, b1, c1, fun k h1 => (hk k h1).1, d1⟩, d2⟩
theorem Tri.step (t : Tri B w p o p2 o2 n hs ht r u us) (h : Step2 w w' p u o o') (t' : Two B w' p o' n hs' r u us') : Tri B w' p o' p2 o2 n hs' ht r u us' := by
  have hl := t.sp2.lt
  refine ⟨t', t.sp2.upd h.upd ?_ ?_, t.pp, t.pr, t.pu, ?_, t.qp, t.qr, t.qu, ?_, t.bp⟩
  · rintro (h1 | h1 | h1)
    · exact t.pp h1.symm
    · exact t.op h1
    · exact t.pu h1.symm
  · rintro k hk (h1 | h1 | h1)
    · exact t.qp (by rw [hk, h1])
    · exact t.oo k h1 hk
    · exact t.qu (by rw [hk, h1])
  · intro he
    rcases h.new _ he with h1 | h1
    · exact t.op h1
    · omega
  · intro k hk he
    rcases h.new k hk with h1 | h1
    · exact t.oo k h1 he
    · have := hl.2 k he
      omega
theorem Tri.box (t : Tri B w p o p2 o2 n hs ht r u us) (cs : Array Value) (ty : TypeId) : Box (w.alloc (.cells cs ty)) p o p2 o2 u w.heap.size (.cells cs ty (0, 0)) := by
  have h1 := t.two.sp.lt
  have h2 := t.sp2.lt
  have h3 := t.two.rf.open.2.1
  have hb := heap_alloc_new w (.cells cs ty)
  exact ⟨by omega, by omega, by omega, fun e => by have := h1.2 _ e; omega, fun e => by have := h2.2 _ e; omega, hb, blk_lt hb⟩
theorem Box.below (x : Box w p o p2 o2 u b obj) (hb : Below w.heap.size w w') : Box w' p o p2 o2 u b obj :=
  ⟨x.hp, x.hp2, x.hu, x.ho, x.ho2, (hb.block b x.hl).trans x.hb, Nat.lt_of_lt_of_le x.hl hb.size⟩
theorem Box.tstep (x : Box w p o p2 o2 u b obj) (h : SpStep w w' p2 o2 o2') : Box w' p o p2 o2' u b obj := by
  obtain ⟨a1, a2⟩ := h.aside x.hp2 x.ho2 x.hl
  exact ⟨x.hp, x.hp2, x.hu, x.ho, a1, a2.trans x.hb, Nat.lt_of_lt_of_le x.hl h.upd.size⟩
theorem Box.step (x : Box w p o p2 o2 u b obj) (h : Step2 w w' p u o o') : Box w' p o' p2 o2 u b obj := by
  refine ⟨x.hp, x.hp2, x.hu, fun he => ?_, x.ho2, (h.upd.block b x.hl ?_).trans x.hb, Nat.lt_of_lt_of_le x.hl h.upd.size⟩
  · rcases h.new b he with h1 | h1
    · exact x.ho h1
    · have := x.hl; omega
  · rintro (h1 | h1 | h1)
    · exact x.hp h1
    · exact x.ho h1
    · exact x.hu h1
end

/-- What the other space makes of the same step. -/
def TPost (B : Nat) (w : World) (p : Nat) (o : Option Nat) (p2 : Nat) (o2 : Option Nat) (n : Int) (hs' : List (Int × Int)) (r u : Nat) (us : List Bool) (e : Ending) (w' : World) : Prop :=
  ∃ v o2', e = .returned v ∧ Tri B w' p o p2 o2' n hs' hs' r u us ∧ Below B w w' ∧ SpStep w w' p2 o2 o2'
theorem talloc (B : Nat) (w : World) (p : Nat) (o : Option Nat) (p2 : Nat) (o2 : Option Nat) (n fr ct : Int) (hs hs' : List (Int × Int)) (r u : Nat) (us : List Bool) (hB : B ≤ w.heap.size) (t : Tri B w p o p2 o2 n hs' hs r u us) (hrel : StepRel n hs hs' 1 fr ct) (hc1 : ct ≤ 9223372036854775807) :
    Calls Try.prog 17 #[.pointer (some ⟨p2, 0, none⟩), .int .i64 ct] w (TPost B w p o p2 o2 n hs' r u us) := by
  have hr : (∃ A h C, hs = A ++ h :: C ∧ (∀ a ∈ A, a.2 < ct) ∧ ct ≤ h.2 ∧ 1 ≤ ct ∧ hs' = A ++ restF h (h.1, ct) ++ C) ∨ ((ct < 1 ∨ ∀ a ∈ hs, a.2 < ct) ∧ hs' = hs) := by
    rcases hrel with ⟨_, h⟩ | ⟨h, _⟩ | ⟨h, _⟩ | ⟨h, _⟩
    · exact h
    · omega
    · omega
    · exact absurd rfl h
  by_cases hc : ct < 1
  · have he : hs' = hs := by
      rcases hr with ⟨_, _, _, _, _, _, h, _⟩ | ⟨_, h⟩
      · omega
      · exact h
    subst he
    refine (alloc_bad p2 ct w hc).mono ?_
    rintro e w' ⟨rfl, hb⟩
    exact ⟨_, o2, rfl, t.below hb, hb.mono hB, SpStep.of_below hb⟩
  · refine (alloc_good p2 o2 n ct hs w t.sp2 (by omega) hc1).mono ?_
    rintro e w' (⟨A, h, C, hhs, hA, hfit, rfl, o3, hsp, hst⟩ | ⟨hno, rfl, hb⟩)
    · have he : hs' = A ++ restF h (h.1, ct) ++ C := by
        rcases hr with ⟨A', h', C', hhs', hA', hfit', _, he⟩ | ⟨h | h, _⟩
        · obtain ⟨rfl, rfl, rfl⟩ := first_unique (hhs.symm.trans hhs') hA hfit hA' hfit'
          exact he
        · omega
        · have := h _ (by rw [hhs]; exact List.mem_append_right _ (List.mem_cons_self ..)); omega
      rw [← he] at hsp
      obtain ⟨t', hb⟩ := t.tstep hst hsp hB
      exact ⟨_, o3, rfl, t', hb, hst⟩
    · have he : hs' = hs := by
        rcases hr with ⟨A', h', C', hhs', _, hfit', _⟩ | ⟨_, h⟩
        · have := hno h' (by rw [hhs']; simp); omega
        · exact h
      subst he
      exact ⟨_, o2, rfl, t.below hb, hb.mono hB, SpStep.of_below hb⟩
theorem ttake (B : Nat) (w : World) (p : Nat) (o : Option Nat) (p2 : Nat) (o2 : Option Nat) (n fr ct : Int) (hs hs' : List (Int × Int)) (r u : Nat) (us : List Bool) (hB : B ≤ w.heap.size) (t : Tri B w p o p2 o2 n hs' hs r u us) (hrel : StepRel n hs hs' 2 fr ct) :
    Calls Try.prog 14 #[.pointer (some ⟨p2, 0, none⟩), .agg #[.int .i64 fr, .int .i64 ct]] w (TPost B w p o p2 o2 n hs' r u us) := by
  have hr : (TakeOk n hs fr ct true ∧ ∀ x, freeB hs' x = (freeB hs x && !(decide (fr ≤ x) && decide (x < fr + ct)))) ∨ (¬ TakeOk n hs fr ct true ∧ hs' = hs) := by
    rcases hrel with ⟨h, _⟩ | ⟨_, h⟩ | ⟨h, _⟩ | ⟨_, h, _⟩
    · omega
    · exact h
    · omega
    · exact absurd rfl h
  refine (take_any p2 o2 n fr ct hs w t.sp2).mono ?_
  rintro e w' (⟨hi, rfl, hb⟩ | ⟨hi, ⟨x, hx1, hx2, hx3⟩, rfl, hb⟩ | ⟨hi, hall, hs3, hok3, hfr3, rfl, o3, hsp, hst⟩)
  · have he : hs' = hs := by
      rcases hr with ⟨h, _⟩ | ⟨_, h⟩
      · have := h.1; rw [hi] at this; cases this
      · exact h
    subst he
    exact ⟨_, o2, rfl, t.below hb, hb.mono hB, SpStep.of_below hb⟩
  · have he : hs' = hs := by
      rcases hr with ⟨h, _⟩ | ⟨_, h⟩
      · have := h.2 x hx1 hx2; rw [hx3] at this; cases this
      · exact h
    subst he
    exact ⟨_, o2, rfl, t.below hb, hb.mono hB, SpStep.of_below hb⟩
  · have he : hs3 = hs' := by
      rcases hr with ⟨_, h⟩ | ⟨h, _⟩
      · exact okFrom_unique hok3 t.two.sp.ok (fun x => by rw [hfr3, h])
      · exact absurd ⟨hi, hall⟩ h
    subst he
    obtain ⟨t', hb⟩ := t.tstep hst hsp hB
    exact ⟨_, o3, rfl, t', hb, hst⟩
theorem tfree (B : Nat) (w : World) (p : Nat) (o : Option Nat) (p2 : Nat) (o2 : Option Nat) (n fr ct : Int) (hs hs' : List (Int × Int)) (r u : Nat) (us : List Bool) (hB : B ≤ w.heap.size) (t : Tri B w p o p2 o2 n hs' hs r u us) (hrel : StepRel n hs hs' 3 fr ct) :
    Calls Try.prog 18 #[.pointer (some ⟨p2, 0, none⟩), .agg #[.int .i64 fr, .int .i64 ct]] w (TPost B w p o p2 o2 n hs' r u us) := by
  have hr : (TakeOk n hs fr ct false ∧ ∀ x, freeB hs' x = (freeB hs x || (decide (fr ≤ x) && decide (x < fr + ct)))) ∨ (¬ TakeOk n hs fr ct false ∧ hs' = hs) := by
    rcases hrel with ⟨h, _⟩ | ⟨h, _⟩ | ⟨_, h⟩ | ⟨_, _, h, _⟩
    · omega
    · omega
    · exact h
    · exact absurd rfl h
  refine (free_any p2 o2 n fr ct hs w t.sp2).mono ?_
  rintro e w' (⟨hi, rfl, hb⟩ | ⟨hi, ⟨x, hx1, hx2, hx3⟩, rfl, hb⟩ | ⟨hi, hall, hs3, hok3, hfr3, rfl, o3, hsp, hst⟩)
  · have he : hs' = hs := by
      rcases hr with ⟨h, _⟩ | ⟨_, h⟩
      · have := h.1; rw [hi] at this; cases this
      · exact h
    subst he
    exact ⟨_, o2, rfl, t.below hb, hb.mono hB, SpStep.of_below hb⟩
  · have he : hs' = hs := by
      rcases hr with ⟨h, _⟩ | ⟨_, h⟩
      · have := h.2 x hx1 hx2; rw [hx3] at this; cases this
      · exact h
    subst he
    exact ⟨_, o2, rfl, t.below hb, hb.mono hB, SpStep.of_below hb⟩
  · have he : hs3 = hs' := by
      rcases hr with ⟨_, h⟩ | ⟨h, _⟩
      · exact okFrom_unique hok3 t.two.sp.ok (fun x => by rw [hfr3, h])
      · exact absurd ⟨hi, hall⟩ h
    subst he
    obtain ⟨t', hb⟩ := t.tstep hst hsp hB
    exact ⟨_, o3, rfl, t', hb, hst⟩
end Go.Proofs.Ytedalcocdgmigaa
