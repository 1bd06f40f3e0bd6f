/- Same, both sides: the walks. -/
import Derived.Test.YtmmbhjomgpnklaaGreat
import Derived.Test.YtmmbhjomgpnklaaRelSeq
namespace Go.Proofs.Ytmmbhjomgpnklaa
open Go.RowKit
set_option linter.unusedVariables false
set_option linter.unusedSimpArgs false
set_option maxRecDepth 100000
structure SameTk (t u : Tk) : Prop where
  lv : t.lv = u.lv
  off : t.off = u.off
  per : t.per = u.per
  dl : t.dl = u.dl
  mem : t.mem = u.mem
  c : SameC t.cn u.cn t.C u.C
structure SameLn (t u : Ln) : Prop where
  mem : t.mem = u.mem
  c : SameC t.cn u.cn t.C u.C
/-- Two systems with all alike. -/
structure SameX (X Y : Cf) : Prop where
  tn : X.tn = Y.tn
  ln : X.ln = Y.ln
  t : ∀ j, j < X.tn → SameTk (X.T j) (Y.T j)
  l : ∀ j, j < X.ln → SameLn (X.L j) (Y.L j)
  mx : X.mx = Y.mx
  s : SameM X.sn Y.sn X.S Y.S
  q : SameM X.qn Y.qn X.Q Y.Q
  m : SameM X.mn Y.mn X.M Y.M
  table : X.table = Y.table
  mask : X.mask = Y.mask
  filter : X.filter = Y.filter
  charge : X.charge = Y.charge
  cycle : X.cycle = Y.cycle
  count : X.count = Y.count
theorem wpList_eql_at {ops : Array Oper} {rest : List Oper} {op : Oper} {a : Act} {w : World} {Q : Exit → Act → World → Prop} (t : TypeId) (x y : Operand) (rt : TypeId) (ho : op.op = .binOp .eql t x y rt)
    (k : IntKind) (m n : Int) (b : Bool) (hb : (m == n) = b) (ht : Try.prog.underlying t = some (.int k)) (hx : a.eval x = .int k m) (hy : a.eval y = .int k n) (hw : Region.wanted op (yielded ops a.tmps) = true)
    (h : wpList Try.prog ops Q rest (a.put op.dst (.bool b)) w) : wpList Try.prog ops Q (op :: rest) a w := by
  refine wpList_step fun K hK => ?_
  rw [if_pos hw]
  unfold Oper.wp execOp
  subst hb
  simp only [ho, hx, hy]
  go_simp
  exact hK _ _ h
end Go.Proofs.Ytmmbhjomgpnklaa
