/- The wheel's calls, under the names that the printed texts import. -/
import Derived.Test.YtngjohckkgmggaaTmJ
namespace Go.Proofs.Ytngjohckkgmggaa.H
end Go.Proofs.Ytngjohckkgmggaa.H
