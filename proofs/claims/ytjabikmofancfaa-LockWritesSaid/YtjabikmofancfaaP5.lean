-- PRINTED by print.py (a twelfth state) out of the translation. Not trusted: Lean checks it.
import Derived.Test.YtjabikmofancfaaP0
import Derived.Test.YtjabikmofancfaaLockHand
namespace Go.Proofs.Ytjabikmofancfaa.P
open Go.RowKit Go.Proofs.YtjabikmofancfaaW.PrintWords Go.Proofs.YtjabikmofancfaaW.PrintLast Go.Proofs.YtjabikmofancfaaW.PrintMore
attribute [local go_sem] max2_int min2_int max_two min_two max_three min_three max_four min_four   -- for this text's walks alone
set_option linter.unusedVariables false
set_option linter.unusedSimpArgs false

/-! ### lock_Take: function 9 -/
def lock_Take.f (l0 : List (S45)) (a1 : Int) (a2 : Int) (a3 : Bool) : Option ((List (S45)) × Int) := Go.Proofs.Ytjabikmofancfaa.H.takeF l0 a1 a2 a3
theorem lock_Take.calls (A0 : Option Addr) (c0 : Nat) (l0 : List (S45)) (a1 : Int) (a2 : Int) (a3 : Bool) (r1 : List (S45)) (r2 : Int) (w : World) (hr0 : Kd.C k45 w A0 l0.length l0) (hc0 : l0.length ≤ c0) (h : lock_Take.f l0 a1 a2 a3 = some (r1, r2)) :
    Calls Try.prog 9 #[.slice A0 l0.length c0, .int .i64 a1, .int .u8 a2, .bool a3] w fun e w' => ∃ v0_ : Value, e = .returned (.tuple #[v0_, .int .i64 r2]) ∧ Kd.R k45 45 w' w.heap.size (fun _ => True) v0_ r1 ∧ Below w.heap.size w w' :=
  Go.Proofs.Ytjabikmofancfaa.H.take_calls A0 c0 l0 a1 a2 a3 r1 r2 w hr0 hc0 h

/-! ### lock_Holds: function 14 -/
def lock_Holds.f (l0 : List (S45)) (a1 : Int) (a2 : Int) : Option (Int) := Go.Proofs.Ytjabikmofancfaa.H.holdsF l0 a1 a2
theorem lock_Holds.calls (A0 : Option Addr) (c0 : Nat) (l0 : List (S45)) (a1 : Int) (a2 : Int) (r : Int) (w : World) (hr0 : Kd.C k45 w A0 l0.length l0) (hc0 : l0.length ≤ c0) (h : lock_Holds.f l0 a1 a2 = some r) :
    Calls Try.prog 14 #[.slice A0 l0.length c0, .int .i64 a1, .int .u8 a2] w fun e w' => e = .returned (.int .i64 r) ∧ Below w.heap.size w w' :=
  Go.Proofs.Ytjabikmofancfaa.H.holds_calls A0 c0 l0 a1 a2 r w hr0 hc0 h

/-! ### lock_Right: function 15 -/
def lock_Right.f (l0 : List (S45)) : Option (Bool) := Go.Proofs.Ytjabikmofancfaa.H.rightF l0
theorem lock_Right.calls (A0 : Option Addr) (c0 : Nat) (l0 : List (S45)) (r : Bool) (w : World) (hr0 : Kd.C k45 w A0 l0.length l0) (hc0 : l0.length ≤ c0) (h : lock_Right.f l0 = some r) :
    Calls Try.prog 15 #[.slice A0 l0.length c0] w fun e w' => e = .returned (.bool r) ∧ Below w.heap.size w w' :=
  Go.Proofs.Ytjabikmofancfaa.H.right_calls A0 c0 l0 r w hr0 hc0 h

/-! ### lock_Free: function 16 -/
def lock_Free.f (l0 : List (S45)) (a1 : Int) : Option ((List (S45))) := Go.Proofs.Ytjabikmofancfaa.H.freeF l0 a1
theorem lock_Free.calls (A0 : Option Addr) (c0 : Nat) (l0 : List (S45)) (a1 : Int) (r : List (S45)) (w : World) (hr0 : Kd.C k45 w A0 l0.length l0) (hc0 : l0.length ≤ c0) (h : lock_Free.f l0 a1 = some r) :
    Calls Try.prog 16 #[.slice A0 l0.length c0, .int .i64 a1] w fun e w' => ∃ v0_ : Value, e = .returned (v0_) ∧ Kd.R k45 45 w' w.heap.size (fun _ => True) v0_ r ∧ Below w.heap.size w w' :=
  Go.Proofs.Ytjabikmofancfaa.H.free_calls A0 c0 l0 a1 r w hr0 hc0 h

end Go.Proofs.Ytjabikmofancfaa.P
