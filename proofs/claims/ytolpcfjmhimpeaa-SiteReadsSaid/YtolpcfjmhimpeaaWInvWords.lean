import Derived.Test.YtolpcfjmhimpeaaWInv
import Derived.Test.YtolpcfjmhimpeaaWFootNe
namespace Go.Proofs.YtolpcfjmhimpeaaW.PrintWords
open Go.RowKit
end Go.Proofs.YtolpcfjmhimpeaaW.PrintWords
namespace Go.Proofs.YtolpcfjmhimpeaaW.PrintLast
section
variable {ops : Array Oper} {a : Act} {o og : Oper} {g : Nat} {t : Tmp} {u : Bool}
end
end Go.Proofs.YtolpcfjmhimpeaaW.PrintLast
