/- The machine side of the laws RadixTexts, RadixBack, RadixParts: its functions as plain Lean functions, and that the calls come to what these say; written by a program of this session (wip/tools/pr.py over the kit's printer). -/
import Derived.Test.YtbbikibgfpokpaaPRadx0
import Derived.Test.YtbbikibgfpokpaaPRadx1
import Derived.Test.YtbbikibgfpokpaaPRadx2
namespace Go.Proofs.Ytbbikibgfpokpaa.PRad
open Go.RowKit Go.Proofs.YtbbikibgfpokpaaW.PrintWords Go.Proofs.YtbbikibgfpokpaaW.PrintLast Go.Proofs.YtbbikibgfpokpaaW.PrintMore
attribute [local go_sem] max2_int min2_int max_two min_two max_three min_three max_four min_four   -- for this text's walks alone
set_option linter.unusedVariables false
set_option linter.unusedSimpArgs false

end Go.Proofs.Ytbbikibgfpokpaa.PRad
