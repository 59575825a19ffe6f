/- Two violations compared by '=='. No statement is proved here. -/
import Derived.Test.YtgimpkbknaopcaaVM
set_option linter.unusedVariables false
set_option linter.unusedSimpArgs false
namespace Go.Proofs.Ytgimpkbknaopcaa
open Go.RowKit

/-- '==' of violations. -/
def eqVb (v p : V) : Bool := (p.kind == v.kind) && ((p.time == v.time) && ((p.txn == v.txn) && ((p.op == v.op) && ((p.wit == v.wit) && ((p.key.toList == v.key.toList) && ((p.want == v.want) && ((p.exp.toList == v.exp.toList) && ((p.got == v.got) && ((p.obs.toList == v.obs.toList) && ((p.frm == v.frm) && ((p.to == v.to))))))))))))
set_option maxHeartbeats 4000000 in
theorem eqV_run (p v : V) (W : World) : (binOp .eql 30 (.agg #[.int .i64 p.kind, .int .i64 p.time, .int .i64 p.txn, .int .i64 p.op, .int .i64 p.wit, .string p.key, .bool p.want, .string p.exp, .bool p.got, .string p.obs, .int .i64 p.frm, .int .i64 p.to]) (.agg #[.int .i64 v.kind, .int .i64 v.time, .int .i64 v.txn, .int .i64 v.op, .int .i64 v.wit, .string v.key, .bool v.want, .string v.exp, .bool v.got, .string v.obs, .int .i64 v.frm, .int .i64 v.to])).run Try.prog W = .ok (.bool (eqVb v p)) W := by
  unfold eqVb
  cases hkind : p.kind == v.kind with
  | false => simp [go_sem, hkind]
  | true =>
    cases htime : p.time == v.time with
    | false => simp [go_sem, htime, hkind]
    | true =>
      cases htxn : p.txn == v.txn with
      | false => simp [go_sem, htxn, hkind, htime]
      | true =>
        cases hop : p.op == v.op with
        | false => simp [go_sem, hop, hkind, htime, htxn]
        | true =>
          cases hwit : p.wit == v.wit with
          | false => simp [go_sem, hwit, hkind, htime, htxn, hop]
          | true =>
            cases hkey : p.key.toList == v.key.toList with
            | false => simp [go_sem, hkey, hkind, htime, htxn, hop, hwit]
            | true =>
              cases hwant : p.want == v.want with
              | false => simp [go_sem, hwant, hkind, htime, htxn, hop, hwit, hkey]
              | true =>
                cases hexp : p.exp.toList == v.exp.toList with
                | false => simp [go_sem, hexp, hkind, htime, htxn, hop, hwit, hkey, hwant]
                | true =>
                  cases hgot : p.got == v.got with
                  | false => simp [go_sem, hgot, hkind, htime, htxn, hop, hwit, hkey, hwant, hexp]
                  | true =>
                    cases hobs : p.obs.toList == v.obs.toList with
                    | false => simp [go_sem, hobs, hkind, htime, htxn, hop, hwit, hkey, hwant, hexp, hgot]
                    | true =>
                      cases hfrm : p.frm == v.frm with
                      | false => simp [go_sem, hfrm, hkind, htime, htxn, hop, hwit, hkey, hwant, hexp, hgot, hobs]
                      | true =>
                        cases hto : p.to == v.to with
                        | false => simp [go_sem, hto, hkind, htime, htxn, hop, hwit, hkey, hwant, hexp, hgot, hobs, hfrm]
                        | true =>
                          simp [go_sem, hkind, htime, htxn, hop, hwit, hkey, hwant, hexp, hgot, hobs, hfrm, hto]
theorem eqVb_self (v : V) : eqVb v v = true := by
  unfold eqVb
  simp
end Go.Proofs.Ytgimpkbknaopcaa
