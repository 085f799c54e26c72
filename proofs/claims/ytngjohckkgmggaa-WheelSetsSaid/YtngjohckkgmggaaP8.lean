-- PRINTED by print.py (a twelfth state) out of the translation. Not trusted: Lean checks it.
import Derived.Test.YtngjohckkgmggaaP0
import Derived.Test.YtngjohckkgmggaaWheelHand
namespace Go.Proofs.Ytngjohckkgmggaa.P
open Go.RowKit Go.Proofs.YtngjohckkgmggaaW.PrintWords Go.Proofs.YtngjohckkgmggaaW.PrintLast Go.Proofs.YtngjohckkgmggaaW.PrintMore
attribute [local go_sem] max2_int min2_int max_two min_two max_three min_three max_four min_four   -- for this text's walks alone
set_option linter.unusedVariables false
set_option linter.unusedSimpArgs false

/-! ### waystationlaw06_alive: function 10 -/
def waystationlaw06_alive.f  : Option (Bool) := Go.Proofs.Ytngjohckkgmggaa.H.aliveF 
theorem waystationlaw06_alive.calls  (r : Bool) (w : World) (h : waystationlaw06_alive.f  = some r) :
    Calls Try.prog 10 #[] w fun e w' => e = .returned (.bool r) ∧ Below w.heap.size w w' :=
  Go.Proofs.Ytngjohckkgmggaa.H.alive_calls  r w h

/-! ### wheel_Tick: function 16 -/
def wheel_Tick.f (a0_0 : Int) (l0_1 : List (S64)) (a1 : Int) : Option (Int × (List (S64)) × List Int × Int) := Go.Proofs.Ytngjohckkgmggaa.H.tickF a0_0 l0_1 a1
theorem wheel_Tick.calls (a0_0 : Int) (A0_1 : Option Addr) (c0_1 : Nat) (l0_1 : List (S64)) (a1 : Int) (r1 : Int) (r2 : List (S64)) (r3 : List Int) (r4 : Int) (w : World) (hr0_1 : Kd.C k64 w A0_1 l0_1.length l0_1) (hc0_1 : l0_1.length ≤ c0_1) (h : wheel_Tick.f a0_0 l0_1 a1 = some (r1, r2, r3, r4)) :
    Calls Try.prog 16 #[.agg #[.int .i64 a0_0, .slice A0_1 l0_1.length c0_1], .int .i64 a1] w fun e w' => ∃ v1_ v2_ : Value, e = .returned (.tuple #[.agg #[.int .i64 r1, v1_], v2_, .int .i64 r4]) ∧ Kd.Q k64 64 w' w.heap.size (fun _ => True) v1_ r2 ∧ Kd.R (Kd.int .i64) 3 w' w.heap.size (fun _ => True) v2_ r3 ∧ Below w.heap.size w w' :=
  Go.Proofs.Ytngjohckkgmggaa.H.tick_calls a0_0 A0_1 c0_1 l0_1 a1 r1 r2 r3 r4 w hr0_1 hc0_1 h

/-! ### wheel_Set: function 11 -/
def wheel_Set.f (a0_0 : Int) (l0_1 : List (S64)) (a1 : Int) (a2 : Int) : Option (Int × (List (S64)) × Int) := Go.Proofs.Ytngjohckkgmggaa.H.setF a0_0 l0_1 a1 a2
theorem wheel_Set.calls (a0_0 : Int) (A0_1 : Option Addr) (c0_1 : Nat) (l0_1 : List (S64)) (a1 : Int) (a2 : Int) (r1 : Int) (r2 : List (S64)) (r3 : Int) (w : World) (hr0_1 : Kd.C k64 w A0_1 l0_1.length l0_1) (hc0_1 : l0_1.length ≤ c0_1) (h : wheel_Set.f a0_0 l0_1 a1 a2 = some (r1, r2, r3)) :
    Calls Try.prog 11 #[.agg #[.int .i64 a0_0, .slice A0_1 l0_1.length c0_1], .int .i64 a1, .int .i64 a2] w fun e w' => ∃ v1_ : Value, e = .returned (.tuple #[.agg #[.int .i64 r1, v1_], .int .i64 r3]) ∧ Kd.R k64 64 w' w.heap.size (fun _ => True) v1_ r2 ∧ Below w.heap.size w w' :=
  Go.Proofs.Ytngjohckkgmggaa.H.set_calls a0_0 A0_1 c0_1 l0_1 a1 a2 r1 r2 r3 w hr0_1 hc0_1 h

/-! ### wheel_Stop: function 14 -/
def wheel_Stop.f (a0_0 : Int) (l0_1 : List (S64)) (a1 : Int) : Option (Int × (List (S64)) × Int) := Go.Proofs.Ytngjohckkgmggaa.H.stopF a0_0 l0_1 a1
theorem wheel_Stop.calls (a0_0 : Int) (A0_1 : Option Addr) (c0_1 : Nat) (l0_1 : List (S64)) (a1 : Int) (r1 : Int) (r2 : List (S64)) (r3 : Int) (w : World) (hr0_1 : Kd.C k64 w A0_1 l0_1.length l0_1) (hc0_1 : l0_1.length ≤ c0_1) (h : wheel_Stop.f a0_0 l0_1 a1 = some (r1, r2, r3)) :
    Calls Try.prog 14 #[.agg #[.int .i64 a0_0, .slice A0_1 l0_1.length c0_1], .int .i64 a1] w fun e w' => ∃ v1_ : Value, e = .returned (.tuple #[.agg #[.int .i64 r1, v1_], .int .i64 r3]) ∧ Kd.R k64 64 w' w.heap.size (fun _ => True) v1_ r2 ∧ Below w.heap.size w w' :=
  Go.Proofs.Ytngjohckkgmggaa.H.stop_calls a0_0 A0_1 c0_1 l0_1 a1 r1 r2 r3 w hr0_1 hc0_1 h

/-! ### wheel_Right: function 20 -/
def wheel_Right.f (a0_0 : Int) (l0_1 : List (S64)) : Option (Bool) := Go.Proofs.Ytngjohckkgmggaa.H.rightF a0_0 l0_1
theorem wheel_Right.calls (a0_0 : Int) (A0_1 : Option Addr) (c0_1 : Nat) (l0_1 : List (S64)) (r : Bool) (w : World) (hr0_1 : Kd.C k64 w A0_1 l0_1.length l0_1) (hc0_1 : l0_1.length ≤ c0_1) (h : wheel_Right.f a0_0 l0_1 = some r) :
    Calls Try.prog 20 #[.agg #[.int .i64 a0_0, .slice A0_1 l0_1.length c0_1]] w fun e w' => e = .returned (.bool r) ∧ Below w.heap.size w w' :=
  Go.Proofs.Ytngjohckkgmggaa.H.right_calls a0_0 A0_1 c0_1 l0_1 r w hr0_1 hc0_1 h

/-! ### wheel_Next: function 18 -/
def wheel_Next.f (a0_0 : Int) (l0_1 : List (S64)) : Option (Int × Bool) := Go.Proofs.Ytngjohckkgmggaa.H.nextF a0_0 l0_1
theorem wheel_Next.calls (a0_0 : Int) (A0_1 : Option Addr) (c0_1 : Nat) (l0_1 : List (S64)) (r1 : Int) (r2 : Bool) (w : World) (hr0_1 : Kd.C k64 w A0_1 l0_1.length l0_1) (hc0_1 : l0_1.length ≤ c0_1) (h : wheel_Next.f a0_0 l0_1 = some (r1, r2)) :
    Calls Try.prog 18 #[.agg #[.int .i64 a0_0, .slice A0_1 l0_1.length c0_1]] w fun e w' => e = .returned (.tuple #[.int .i64 r1, .bool r2]) ∧ Below w.heap.size w w' :=
  Go.Proofs.Ytngjohckkgmggaa.H.next_calls a0_0 A0_1 c0_1 l0_1 r1 r2 w hr0_1 hc0_1 h

end Go.Proofs.Ytngjohckkgmggaa.P
