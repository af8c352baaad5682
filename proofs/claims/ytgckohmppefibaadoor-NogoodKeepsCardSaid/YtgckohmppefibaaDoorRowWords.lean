/- Words of the rows: whole numbers fit. -/
import Derived.ProofKit
import Derived.OpenShut
import Derived.ShutString
import Derived.ChangeOld
import Derived.SizedLaws
namespace Go.Proofs.YtgckohmppefibaaDoor
end Go.Proofs.YtgckohmppefibaaDoor
