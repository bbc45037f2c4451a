/- What comes in, read; beside the example of chapter 08. -/
import Derived.Test.YtkccakaaklemdaaRead0
import Derived.Test.YtkccakaaklemdaaLaw08b
namespace Go.Proofs.Ytkccakaaklemdaa
end Go.Proofs.Ytkccakaaklemdaa
