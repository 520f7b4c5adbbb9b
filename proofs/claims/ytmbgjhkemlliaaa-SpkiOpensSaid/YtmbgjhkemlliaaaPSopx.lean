/- The machine side of the laws SpkiOpens: its functions as plain Lean functions, and that the calls come to what these say; written by a program of this session (wip/tools/pr.py over the kit's printer). -/
import Derived.Test.YtmbgjhkemlliaaaPSopx0
import Derived.Test.YtmbgjhkemlliaaaPSopx3
namespace Go.Proofs.Ytmbgjhkemlliaaa.PSop
open Go.RowKit Go.Proofs.YtmbgjhkemlliaaaW.PrintWords Go.Proofs.YtmbgjhkemlliaaaW.PrintLast Go.Proofs.YtmbgjhkemlliaaaW.PrintMore
attribute [local go_sem] max2_int min2_int max_two min_two max_three min_three max_four min_four   -- for this text's walks alone
set_option linter.unusedVariables false
set_option linter.unusedSimpArgs false

end Go.Proofs.Ytmbgjhkemlliaaa.PSop
