/- marigoldref10.Move and Top, walked. -/
import Derived.Test.YtibmfpcbjopojaaArrS
namespace Go.Proofs.Ytibmfpcbjopojaa
open Go.RowKit
end Go.Proofs.Ytibmfpcbjopojaa
