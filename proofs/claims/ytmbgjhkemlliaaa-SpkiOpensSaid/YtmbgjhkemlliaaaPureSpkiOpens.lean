/- SpkiOpens: what is opened, sealed again, has just these bytes: its walk bears all (PSopx, Awake). No conditions. -/
import Derived.Test.YtmbgjhkemlliaaaPSopx
namespace Go.Proofs.Ytmbgjhkemlliaaa.Pure
open Go.Proofs.Ytmbgjhkemlliaaa.PSop
theorem SpkiOpens : lanyardlaw14_SpkiOpens.Pure := trivial
end Go.Proofs.Ytmbgjhkemlliaaa.Pure
