-- PRINTED by print.py (a twelfth state) out of the translation. Not trusted: Lean checks it.
import Derived.Test.YtolpcfjmhimpeaaP0
import Derived.Test.YtolpcfjmhimpeaaM2
namespace Go.Proofs.Ytolpcfjmhimpeaa.P
open Go.RowKit Go.Proofs.YtolpcfjmhimpeaaW.PrintWords Go.Proofs.YtolpcfjmhimpeaaW.PrintLast Go.Proofs.YtolpcfjmhimpeaaW.PrintMore
attribute [local go_sem] max2_int min2_int max_two min_two max_three min_three max_four min_four   -- for this text's walks alone
set_option linter.unusedVariables false
set_option linter.unusedSimpArgs false

/-! ### lock_Take: function 46 -/
def lock_Take.f (l0 : List (S119)) (a1 : Int) (a2 : Int) (a3 : Bool) : Option ((List (S119)) × Int) := Go.Proofs.Ytolpcfjmhimpeaa.H.takeF l0 a1 a2 a3
theorem lock_Take.calls (A0 : Option Addr) (c0 : Nat) (l0 : List (S119)) (a1 : Int) (a2 : Int) (a3 : Bool) (r1 : List (S119)) (r2 : Int) (w : World) (hr0 : Kd.C k119 w A0 l0.length l0) (hc0 : l0.length ≤ c0) (h : lock_Take.f l0 a1 a2 a3 = some (r1, r2)) :
    Calls Try.prog 46 #[.slice A0 l0.length c0, .int .i64 a1, .int .u8 a2, .bool a3] w fun e w' => ∃ v0_ : Value, e = .returned (.tuple #[v0_, .int .i64 r2]) ∧ Kd.R k119 119 w' w.heap.size (fun _ => True) v0_ r1 ∧ Below w.heap.size w w' :=
  Go.Proofs.Ytolpcfjmhimpeaa.H.take_calls A0 c0 l0 a1 a2 a3 r1 r2 w hr0 hc0 h

/-! ### lock_Free: function 52 -/
def lock_Free.f (l0 : List (S119)) (a1 : Int) : Option ((List (S119))) := Go.Proofs.Ytolpcfjmhimpeaa.H.freeF l0 a1
theorem lock_Free.calls (A0 : Option Addr) (c0 : Nat) (l0 : List (S119)) (a1 : Int) (r : List (S119)) (w : World) (hr0 : Kd.C k119 w A0 l0.length l0) (hc0 : l0.length ≤ c0) (h : lock_Free.f l0 a1 = some r) :
    Calls Try.prog 52 #[.slice A0 l0.length c0, .int .i64 a1] w fun e w' => ∃ v0_ : Value, e = .returned (v0_) ∧ Kd.R k119 119 w' w.heap.size (fun _ => True) v0_ r ∧ Below w.heap.size w w' :=
  Go.Proofs.Ytolpcfjmhimpeaa.H.free_calls A0 c0 l0 a1 r w hr0 hc0 h

/-! ### part_Right: function 33 -/
def part_Right.f (a0_0 : Int) (l0_1 : List (S73)) (a0_2 : Bool) (a0_3 : Int) : Option (Bool) := Go.Proofs.Ytolpcfjmhimpeaa.HD.prightF a0_0 l0_1 a0_2 a0_3
theorem part_Right.calls (a0_0 : Int) (A0_1 : Option Addr) (c0_1 : Nat) (l0_1 : List (S73)) (a0_2 : Bool) (a0_3 : Int) (r : Bool) (w : World) (hr0_1 : Kd.C k73 w A0_1 l0_1.length l0_1) (hc0_1 : l0_1.length ≤ c0_1) (h : part_Right.f a0_0 l0_1 a0_2 a0_3 = some r) :
    Calls Try.prog 33 #[.agg #[.int .i64 a0_0, .slice A0_1 l0_1.length c0_1, .bool a0_2, .int .i64 a0_3]] w fun e w' => e = .returned (.bool r) ∧ Below w.heap.size w w' :=
  Go.Proofs.Ytolpcfjmhimpeaa.HD.pright_calls a0_0 A0_1 c0_1 l0_1 a0_2 a0_3 r w hr0_1 hc0_1 h

/-! ### api_Delta: function 29 -/
def api_Delta.f (l0 : List (S73)) : Option ((List (S73))) := Go.Proofs.Ytolpcfjmhimpeaa.HD.cloneDF l0
theorem api_Delta.calls (A0 : Option Addr) (c0 : Nat) (l0 : List (S73)) (r : List (S73)) (w : World) (hr0 : Kd.C k73 w A0 l0.length l0) (hc0 : l0.length ≤ c0) (h : api_Delta.f l0 = some r) :
    Calls Try.prog 29 #[.slice A0 l0.length c0] w fun e w' => ∃ v0_ : Value, e = .returned (v0_) ∧ Kd.R k73 73 w' w.heap.size (fun _ => True) v0_ r ∧ Below w.heap.size w w' :=
  Go.Proofs.Ytolpcfjmhimpeaa.HD.cloneD_calls A0 c0 l0 r w hr0 hc0 h

/-! ### part_opposites: function 35 -/
def part_opposites.f (l0 : List (S73)) : Option ((List (S73))) := Go.Proofs.Ytolpcfjmhimpeaa.HD.oppF l0
theorem part_opposites.calls (A0 : Option Addr) (c0 : Nat) (l0 : List (S73)) (r : List (S73)) (w : World) (hr0 : Kd.C k73 w A0 l0.length l0) (hc0 : l0.length ≤ c0) (h : part_opposites.f l0 = some r) :
    Calls Try.prog 35 #[.slice A0 l0.length c0] w fun e w' => ∃ v0_ : Value, e = .returned (v0_) ∧ Kd.R k73 73 w' w.heap.size (fun _ => True) v0_ r ∧ Below w.heap.size w w' :=
  Go.Proofs.Ytolpcfjmhimpeaa.HD.opp_calls A0 c0 l0 r w hr0 hc0 h

/-! ### ledger_Put: function 51 -/
def ledger_Put.f (l0 : List (S73)) (l1 : List (S73)) : Option ((List (S73)) × Int) := Go.Proofs.Ytolpcfjmhimpeaa.HD.putF l0 l1
theorem ledger_Put.calls (A0 : Option Addr) (c0 : Nat) (l0 : List (S73)) (A1 : Option Addr) (c1 : Nat) (l1 : List (S73)) (r1 : List (S73)) (r2 : Int) (w : World) (hr0 : Kd.C k73 w A0 l0.length l0) (hc0 : l0.length ≤ c0) (hr1 : Kd.C k73 w A1 l1.length l1) (hc1 : l1.length ≤ c1) (h : ledger_Put.f l0 l1 = some (r1, r2)) :
    Calls Try.prog 51 #[.slice A0 l0.length c0, .slice A1 l1.length c1] w fun e w' => ∃ v0_ : Value, e = .returned (.tuple #[v0_, .int .i64 r2]) ∧ Kd.R k73 73 w' w.heap.size (fun _ => True) v0_ r1 ∧ Below w.heap.size w w' :=
  Go.Proofs.Ytolpcfjmhimpeaa.HD.put_calls A0 c0 l0 A1 c1 l1 r1 r2 w hr0 hc0 hr1 hc1 h

/-! ### site_Record: function 32 -/
def site_Record.f (l0 : List (S35)) : Option ((List (S35))) := Go.Proofs.Ytolpcfjmhimpeaa.HR.cloneRF l0
theorem site_Record.calls (A0 : Option Addr) (c0 : Nat) (l0 : List (S35)) (r : List (S35)) (w : World) (hr0 : Kd.C k35 w A0 l0.length l0) (hc0 : l0.length ≤ c0) (h : site_Record.f l0 = some r) :
    Calls Try.prog 32 #[.slice A0 l0.length c0] w fun e w' => ∃ v0_ : Value, e = .returned (v0_) ∧ Kd.R k35 35 w' w.heap.size (fun _ => True) v0_ r ∧ Below w.heap.size w w' :=
  Go.Proofs.Ytolpcfjmhimpeaa.HR.cloneR_calls A0 c0 l0 r w hr0 hc0 h

end Go.Proofs.Ytolpcfjmhimpeaa.P
