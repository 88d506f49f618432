/- prepare does what it is said to do. -/
import Derived.Test.YtogbapdioccamaaE13
import Derived.Test.YtogbapdioccamaaE22
namespace Go.Proofs.Ytogbapdioccamaa
theorem prepOk : PrepOk := fun A M n m c d xs ms w h1 h2 h3 h4 => prepare_any A M n m c d xs ms w h1 h2 h3 h4
end Go.Proofs.Ytogbapdioccamaa
