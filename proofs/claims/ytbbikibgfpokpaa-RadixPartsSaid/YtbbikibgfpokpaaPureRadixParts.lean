/- RadixParts: of as many bytes as a number of threes the text is that, with the others' text behind: its walk bears all (PRadx, RadR). No conditions. -/
import Derived.Test.YtbbikibgfpokpaaPRadx
namespace Go.Proofs.Ytbbikibgfpokpaa.Pure
open Go.Proofs.Ytbbikibgfpokpaa.PRad
theorem RadixParts : lanyardlaw02_RadixParts.Pure := trivial
end Go.Proofs.Ytbbikibgfpokpaa.Pure
