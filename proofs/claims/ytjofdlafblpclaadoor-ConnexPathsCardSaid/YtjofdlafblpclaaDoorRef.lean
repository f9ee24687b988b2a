/-
  Contracts of reference functions and of slices.Equal.
-/
import Derived.Test.YtjofdlafblpclaaDoorHyp
namespace Go.Proofs.YtjofdlafblpclaaDoor
open Go.RowKit

end Go.Proofs.YtjofdlafblpclaaDoor
