/- marigoldref10.From, walked. -/
import Derived.Test.YtibmfpcbjopojaaArrW
namespace Go.Proofs.Ytibmfpcbjopojaa
open Go.RowKit
end Go.Proofs.Ytibmfpcbjopojaa
