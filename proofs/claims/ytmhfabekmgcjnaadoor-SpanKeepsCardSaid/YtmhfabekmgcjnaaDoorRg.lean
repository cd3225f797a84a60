/- Layer 16: the law's own 'right'. -/
import Derived.Test.YtmhfabekmgcjnaaDoorCp
import Derived.Test.YtmhfabekmgcjnaaDoorGm
namespace Go.Proofs.YtmhfabekmgcjnaaDoor
open Go.RowKit Go.Bx Go.Od Go.Hp
attribute [local go_sem ↓] Go.wp_at_zero Go.wp_at_succ
set_option linter.unusedVariables false

def rightB (nds : List Nd) (out : Int) : Bool := fewB nds 12 && (chkB nds out == 0)
end Go.Proofs.YtmhfabekmgcjnaaDoor
