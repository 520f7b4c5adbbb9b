/- The machine side of the laws SpkiOpens: its functions as plain Lean functions, and that the calls come to what these say; written by a program of this session (wip/tools/pr.py over the kit's printer). -/
import Derived.Test.YtmbgjhkemlliaaaPSopx0
import Derived.Test.YtmbgjhkemlliaaaX6
namespace Go.Proofs.Ytmbgjhkemlliaaa.PSop
open Go.RowKit Go.Proofs.YtmbgjhkemlliaaaW.PrintWords Go.Proofs.YtmbgjhkemlliaaaW.PrintLast Go.Proofs.YtmbgjhkemlliaaaW.PrintMore
attribute [local go_sem] max2_int min2_int max_two min_two max_three min_three max_four min_four   -- for this text's walks alone
set_option linter.unusedVariables false
set_option linter.unusedSimpArgs false

/-! ### lanyardlaw14_SpkiOpens: function 4 (by hand) -/
def lanyardlaw14_SpkiOpens.Pure : Prop := True
theorem lanyardlaw14_SpkiOpens.walk (P : lanyardlaw14_SpkiOpens.Pure) (a0 : Option Addr) (len0 cap0 : Nat) (z0 : List Int) (w : World)
    (w0 : (a0 = none ∧ len0 = 0 ∧ cap0 = 0 ∧ z0 = []) ∨ ∃ x, a0 = some x ∧ len0 ≤ cap0 ∧ cap0 ≤ maxLen ∧ z0.length = cap0 ∧ (∀ i, i < z0.length → w.cell? (x.add i) = some (.int .u8 (z0.getD i 0))) ∧ ∀ n ∈ z0, (Lit.int .u8 n).wf = true) (y0 : len0 * 1 ≤ 140737488351232) :
    Calls Try.prog 4 #[.slice a0 len0 cap0] w fun e w' => e = .returned (.bool true) ∧ Below w.heap.size w w' := by
  obtain ⟨l0, rfl, hr0, hm0, hw0, hc0⟩ := ReadsInt.ofRowC w0
  have b0 : ∀ x ∈ l0, 0 ≤ x ∧ x < 256 := fun x hx => by have := hw0 x hx; simp [Lit.wf, IntKind.min, IntKind.max, IntKind.signed, IntKind.bits] at this; omega
  exact Tlv.opens_any a0 cap0 l0 w hr0 hc0 b0

end Go.Proofs.Ytmbgjhkemlliaaa.PSop
