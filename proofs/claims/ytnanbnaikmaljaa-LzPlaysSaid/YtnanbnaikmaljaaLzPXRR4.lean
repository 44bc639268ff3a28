
/- The reference's reader: token, walked. -/
import Derived.Test.YtnanbnaikmaljaaLzPXRR3
namespace Go.Proofs.Ytnanbnaikmaljaa
open Go.RowKit

end Go.Proofs.Ytnanbnaikmaljaa
