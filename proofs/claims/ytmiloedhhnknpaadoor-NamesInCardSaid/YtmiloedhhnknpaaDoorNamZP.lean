/- The plain laws of Prefix and Apart. Conditions: as each theorem says. -/
import Derived.Test.YtmiloedhhnknpaaDoorNamQ
namespace Go.Proofs.YtmiloedhhnknpaaDoor
end Go.Proofs.YtmiloedhhnknpaaDoor
