import Derived.Test.YtngjohckkgmggaaWInv
import Derived.Test.YtngjohckkgmggaaWFootNe
namespace Go.Proofs.YtngjohckkgmggaaW.PrintWords
open Go.RowKit
end Go.Proofs.YtngjohckkgmggaaW.PrintWords
namespace Go.Proofs.YtngjohckkgmggaaW.PrintLast
section
variable {ops : Array Oper} {a : Act} {o og : Oper} {g : Nat} {t : Tmp} {u : Bool}
end
end Go.Proofs.YtngjohckkgmggaaW.PrintLast
