/- The walks of lower case and fold (1.2) of the reference. -/
import Derived.Test.YtfnmohaddkoalaaDoorQLowA
namespace Go.Proofs.YtfnmohaddkoalaaDoor
open Go.RowKit

end Go.Proofs.YtfnmohaddkoalaaDoor
