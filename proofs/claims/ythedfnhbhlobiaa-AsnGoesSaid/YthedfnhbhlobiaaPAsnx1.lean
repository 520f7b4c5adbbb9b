/- The machine side of the laws AsnRises, AsnJoins, AsnGoes, AsnOne: its functions as plain Lean functions, and that the calls come to what these say; written by a program of this session (wip/tools/pr.py over the kit's printer). -/
import Derived.Test.YthedfnhbhlobiaaPAsnx0
import Derived.Test.YthedfnhbhlobiaaAsn6
namespace Go.Proofs.Ythedfnhbhlobiaa.PAsn
open Go.RowKit Go.Proofs.YthedfnhbhlobiaaW.PrintWords Go.Proofs.YthedfnhbhlobiaaW.PrintLast Go.Proofs.YthedfnhbhlobiaaW.PrintMore
attribute [local go_sem] max2_int min2_int max_two min_two max_three min_three max_four min_four   -- for this text's walks alone
set_option linter.unusedVariables false
set_option linter.unusedSimpArgs false

theorem eqA27 (d : Nat) (w : World) (x0 y0 : Int) (x1 y1 : Int) :
    (Op.equalIn (d + 2) 27 (.agg #[.int .u32 x0, .int .u32 x1]) (.agg #[.int .u32 y0, .int .u32 y1])).run Try.prog w = .ok (x0 == y0 && (x1 == y1)) w := by
  refine eqA_of Try.underlying27 (by kernel_rfl) ?_
  refine eqf_cons (by rfl) (by go_simp; rfl) (by go_simp; rfl) (by go_simp) ?_
  exact eqf_last (by rfl) (by go_simp; rfl) (by go_simp; rfl) (by go_simp)
end Go.Proofs.Ythedfnhbhlobiaa.PAsn
