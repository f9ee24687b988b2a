/-
  Contract of the reference's Inside: the place of the first edge that holds the set.
-/
import Derived.Test.YtjofdlafblpclaaDoorHyp
import Derived.Test.YtjofdlafblpclaaDoorRip
import Derived.Test.YtjofdlafblpclaaDoorIns
namespace Go.Proofs.YtjofdlafblpclaaDoor
open Go.RowKit

end Go.Proofs.YtjofdlafblpclaaDoor
namespace Go.Proofs.YtjofdlafblpclaaDoor
open Go.RowKit

end Go.Proofs.YtjofdlafblpclaaDoor
