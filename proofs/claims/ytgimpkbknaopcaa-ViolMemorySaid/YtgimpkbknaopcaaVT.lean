/- same, over two slices that hold the same violations. No statement is proved here. -/
import Derived.Test.YtgimpkbknaopcaaVO
set_option linter.unusedVariables false
set_option linter.unusedSimpArgs false
namespace Go.Proofs.Ytgimpkbknaopcaa
open Go.RowKit Go.Shelf Go.Lib
open Go.Sort hiding Below

/-- A slice that can be read: these violations. -/
def VIn (w : World) (a : Option Addr) (l : List V) : Prop := l ≠ [] → ∃ b o, a = some ⟨b, o, none⟩ ∧ b < w.heap.size ∧ ∀ i (hi : i < l.length) j, j < 12 → w.cell? ⟨b, o + i * 12 + j, none⟩ = (l[i]).cs[j]?
theorem VIn.below {w w' : World} {a : Option Addr} {l : List V} (h : VIn w a l) (hb : Below w.heap.size w w') : VIn w' a l := by
  intro hn
  obtain ⟨b, o, rfl, hl, hc⟩ := h hn
  exact ⟨b, o, rfl, Nat.lt_of_lt_of_le hl hb.size, fun i hi j hj => (hb.cell (p := ⟨b, o + i * 12 + j, none⟩) hl).trans (hc i hi j hj)⟩
theorem own_vin {w : World} {v : Value} {l : List V} (h : OwnV w v l) : ∃ a cap, v = .slice a l.length cap ∧ VIn w a l := by
  by_cases hn : l = []
  · subst hn
    rcases h.2 with ⟨rfl, _⟩ | ⟨g, cap, cur, rfl, _⟩
    · exact ⟨none, 0, rfl, fun hh => absurd rfl hh⟩
    · exact ⟨_, _, rfl, fun hh => absurd rfl hh⟩
  · obtain ⟨g, cap, rfl, hg, hc⟩ := ownV_open h hn
    exact ⟨_, _, rfl, fun _ => ⟨g, 0, rfl, hg, fun i hi j hj => by rw [Nat.zero_add]; exact hc i hi j hj⟩⟩

set_option maxHeartbeats 4000000 in
set_option maxRecDepth 1000000 in
theorem same_eq (a b : Option Addr) (ca cb : Nat) (l : List V) (w : World) (ha : VIn w a l) (hb : VIn w b l) (hl : l.length ≤ 9000000000000) :
    Calls Try.prog 13 #[.slice a l.length ca, .slice b l.length cb] w fun e w' => e = .returned (.bool true) ∧ Below w.heap.size w w' := by
  obtain ⟨n, hn⟩ : ∃ n, n = l.length := ⟨_, rfl⟩
  rw [← hn] at hl ⊢
  have HN := hid hn
  have HA := hid ha
  have HB := hid hb
  clear hn ha hb
  go_enter Try.func13, Try.ntmps13
  go_wp2_with fail
  go_loopg [14] n (fun gh s14 wr => ∃ i : Nat, i ≤ n ∧ gh = n - i ∧ s14 = .int .i64 i ∧ Hid (Below w.heap.size w wr))
  case atStart => exact ⟨0, Nat.zero_le _, by omega, rfl, hid (Below.refl _ _)⟩
  case round =>
    obtain ⟨i, hi, rfl, rfl, hbel⟩ := hrel
    by_cases hlt : i < n
    · have hne : l ≠ [] := by
        intro h
        have := HN.out
        rw [h] at this
        simp at this
        omega
      have hil : i < l.length := by have := HN.out; omega
      obtain ⟨x, ox, hax, hxl, hxc⟩ := (HA.out.below hbel.out) hne
      obtain ⟨y, oy, hby, hyl, hyc⟩ := (HB.out.below hbel.out) hne
      subst hax
      subst hby
      have hx := hxc i hil
      have hy := hyc i hil
      clear hxc hyc hne
      generalize l[i] = v at *
      have hal := (Below.refl _ wr).alloc (Nat.le_refl _) (.cells #[.int .i64 v.kind, .int .i64 v.time, .int .i64 v.txn, .int .i64 v.op, .int .i64 v.wit, .string v.key, .bool v.want, .string v.exp, .bool v.got, .string v.obs, .int .i64 v.frm, .int .i64 v.to] 30)
      have hb2 := hid (hbel.out.trans (hal.mono hbel.out.size))
      have hi64 : (i : Int) < (n : Int) := by omega
      have x0 : wr.cell? ⟨x, ox + i * 12, none⟩ = some (.int .i64 v.kind) := hx 0 (by omega)
      have x1 : wr.cell? ⟨x, ox + i * 12 + 1, none⟩ = some (.int .i64 v.time) := hx 1 (by omega)
      have x2 : wr.cell? ⟨x, ox + i * 12 + 2, none⟩ = some (.int .i64 v.txn) := hx 2 (by omega)
      have x3 : wr.cell? ⟨x, ox + i * 12 + 3, none⟩ = some (.int .i64 v.op) := hx 3 (by omega)
      have x4 : wr.cell? ⟨x, ox + i * 12 + 4, none⟩ = some (.int .i64 v.wit) := hx 4 (by omega)
      have x5 : wr.cell? ⟨x, ox + i * 12 + 5, none⟩ = some (.string v.key) := hx 5 (by omega)
      have x6 : wr.cell? ⟨x, ox + i * 12 + 6, none⟩ = some (.bool v.want) := hx 6 (by omega)
      have x7 : wr.cell? ⟨x, ox + i * 12 + 7, none⟩ = some (.string v.exp) := hx 7 (by omega)
      have x8 : wr.cell? ⟨x, ox + i * 12 + 8, none⟩ = some (.bool v.got) := hx 8 (by omega)
      have x9 : wr.cell? ⟨x, ox + i * 12 + 9, none⟩ = some (.string v.obs) := hx 9 (by omega)
      have x10 : wr.cell? ⟨x, ox + i * 12 + 10, none⟩ = some (.int .i64 v.frm) := hx 10 (by omega)
      have x11 : wr.cell? ⟨x, ox + i * 12 + 11, none⟩ = some (.int .i64 v.to) := hx 11 (by omega)
      have y0 : (wr.alloc (.cells #[.int .i64 v.kind, .int .i64 v.time, .int .i64 v.txn, .int .i64 v.op, .int .i64 v.wit, .string v.key, .bool v.want, .string v.exp, .bool v.got, .string v.obs, .int .i64 v.frm, .int .i64 v.to] 30)).cell? ⟨y, oy + i * 12, none⟩ = some (.int .i64 v.kind) := (hal.cell (p := ⟨y, oy + i * 12, none⟩) hyl).trans (hy 0 (by omega))
      have y1 : (wr.alloc (.cells #[.int .i64 v.kind, .int .i64 v.time, .int .i64 v.txn, .int .i64 v.op, .int .i64 v.wit, .string v.key, .bool v.want, .string v.exp, .bool v.got, .string v.obs, .int .i64 v.frm, .int .i64 v.to] 30)).cell? ⟨y, oy + i * 12 + 1, none⟩ = some (.int .i64 v.time) := (hal.cell (p := ⟨y, oy + i * 12 + 1, none⟩) hyl).trans (hy 1 (by omega))
      have y2 : (wr.alloc (.cells #[.int .i64 v.kind, .int .i64 v.time, .int .i64 v.txn, .int .i64 v.op, .int .i64 v.wit, .string v.key, .bool v.want, .string v.exp, .bool v.got, .string v.obs, .int .i64 v.frm, .int .i64 v.to] 30)).cell? ⟨y, oy + i * 12 + 2, none⟩ = some (.int .i64 v.txn) := (hal.cell (p := ⟨y, oy + i * 12 + 2, none⟩) hyl).trans (hy 2 (by omega))
      have y3 : (wr.alloc (.cells #[.int .i64 v.kind, .int .i64 v.time, .int .i64 v.txn, .int .i64 v.op, .int .i64 v.wit, .string v.key, .bool v.want, .string v.exp, .bool v.got, .string v.obs, .int .i64 v.frm, .int .i64 v.to] 30)).cell? ⟨y, oy + i * 12 + 3, none⟩ = some (.int .i64 v.op) := (hal.cell (p := ⟨y, oy + i * 12 + 3, none⟩) hyl).trans (hy 3 (by omega))
      have y4 : (wr.alloc (.cells #[.int .i64 v.kind, .int .i64 v.time, .int .i64 v.txn, .int .i64 v.op, .int .i64 v.wit, .string v.key, .bool v.want, .string v.exp, .bool v.got, .string v.obs, .int .i64 v.frm, .int .i64 v.to] 30)).cell? ⟨y, oy + i * 12 + 4, none⟩ = some (.int .i64 v.wit) := (hal.cell (p := ⟨y, oy + i * 12 + 4, none⟩) hyl).trans (hy 4 (by omega))
      have y5 : (wr.alloc (.cells #[.int .i64 v.kind, .int .i64 v.time, .int .i64 v.txn, .int .i64 v.op, .int .i64 v.wit, .string v.key, .bool v.want, .string v.exp, .bool v.got, .string v.obs, .int .i64 v.frm, .int .i64 v.to] 30)).cell? ⟨y, oy + i * 12 + 5, none⟩ = some (.string v.key) := (hal.cell (p := ⟨y, oy + i * 12 + 5, none⟩) hyl).trans (hy 5 (by omega))
      have y6 : (wr.alloc (.cells #[.int .i64 v.kind, .int .i64 v.time, .int .i64 v.txn, .int .i64 v.op, .int .i64 v.wit, .string v.key, .bool v.want, .string v.exp, .bool v.got, .string v.obs, .int .i64 v.frm, .int .i64 v.to] 30)).cell? ⟨y, oy + i * 12 + 6, none⟩ = some (.bool v.want) := (hal.cell (p := ⟨y, oy + i * 12 + 6, none⟩) hyl).trans (hy 6 (by omega))
      have y7 : (wr.alloc (.cells #[.int .i64 v.kind, .int .i64 v.time, .int .i64 v.txn, .int .i64 v.op, .int .i64 v.wit, .string v.key, .bool v.want, .string v.exp, .bool v.got, .string v.obs, .int .i64 v.frm, .int .i64 v.to] 30)).cell? ⟨y, oy + i * 12 + 7, none⟩ = some (.string v.exp) := (hal.cell (p := ⟨y, oy + i * 12 + 7, none⟩) hyl).trans (hy 7 (by omega))
      have y8 : (wr.alloc (.cells #[.int .i64 v.kind, .int .i64 v.time, .int .i64 v.txn, .int .i64 v.op, .int .i64 v.wit, .string v.key, .bool v.want, .string v.exp, .bool v.got, .string v.obs, .int .i64 v.frm, .int .i64 v.to] 30)).cell? ⟨y, oy + i * 12 + 8, none⟩ = some (.bool v.got) := (hal.cell (p := ⟨y, oy + i * 12 + 8, none⟩) hyl).trans (hy 8 (by omega))
      have y9 : (wr.alloc (.cells #[.int .i64 v.kind, .int .i64 v.time, .int .i64 v.txn, .int .i64 v.op, .int .i64 v.wit, .string v.key, .bool v.want, .string v.exp, .bool v.got, .string v.obs, .int .i64 v.frm, .int .i64 v.to] 30)).cell? ⟨y, oy + i * 12 + 9, none⟩ = some (.string v.obs) := (hal.cell (p := ⟨y, oy + i * 12 + 9, none⟩) hyl).trans (hy 9 (by omega))
      have y10 : (wr.alloc (.cells #[.int .i64 v.kind, .int .i64 v.time, .int .i64 v.txn, .int .i64 v.op, .int .i64 v.wit, .string v.key, .bool v.want, .string v.exp, .bool v.got, .string v.obs, .int .i64 v.frm, .int .i64 v.to] 30)).cell? ⟨y, oy + i * 12 + 10, none⟩ = some (.int .i64 v.frm) := (hal.cell (p := ⟨y, oy + i * 12 + 10, none⟩) hyl).trans (hy 10 (by omega))
      have y11 : (wr.alloc (.cells #[.int .i64 v.kind, .int .i64 v.time, .int .i64 v.txn, .int .i64 v.op, .int .i64 v.wit, .string v.key, .bool v.want, .string v.exp, .bool v.got, .string v.obs, .int .i64 v.frm, .int .i64 v.to] 30)).cell? ⟨y, oy + i * 12 + 11, none⟩ = some (.int .i64 v.to) := (hal.cell (p := ⟨y, oy + i * 12 + 11, none⟩) hyl).trans (hy 11 (by omega))
      clear hx hy hal
      go_upto_region 6 with fail
      go_quiet (fail)
      clear x0 y0 x1 y1 x2 y2 x3 y3 x4 y4 x5 y5 x6 y6 x7 y7 x8 y8 x9 y9 x10 y10 x11 y11
      have hb3 := hid (_root_.Go.Proofs.Ytgimpkbknaopcaa.Below.drewN hb2.out nq)
      clear hb2
      go_wp2_with fail
      go_roundg (n - (i + 1))
      case measure => omega
      case rel => exact ⟨i + 1, by omega, rfl, by go_num, hb3⟩
    · have hkN : i = n := by omega
      subst hkN
      go_wp2_with fail
      go_ret
      exact ⟨rfl, hbel.out⟩
end Go.Proofs.Ytgimpkbknaopcaa
