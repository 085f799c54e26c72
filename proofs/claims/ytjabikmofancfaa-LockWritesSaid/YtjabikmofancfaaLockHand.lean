
import Derived.Test.YtjabikmofancfaaLkM
namespace Go.Proofs.Ytjabikmofancfaa.H
open Go.RowKit Go.Proofs.YtjabikmofancfaaW.PrintWords Go.Proofs.YtjabikmofancfaaW.PrintLast Go.Proofs.Ytjabikmofancfaa.P
set_option linter.unusedVariables false

theorem take_calls (A0 : Option Addr) (c0 : Nat) (l0 : List (S45)) (a1 : Int) (a2 : Int) (a3 : Bool) (r1 : List (S45)) (r2 : Int) (w : World) (hr0 : Kd.C k45 w A0 l0.length l0) (hc0 : l0.length ≤ c0) (h : takeF l0 a1 a2 a3 = some (r1, r2)) :
    Calls Try.prog 9 #[.slice A0 l0.length c0, .int .i64 a1, .int .u8 a2, .bool a3] w fun e w' => ∃ v0_ : Value, e = .returned (.tuple #[v0_, .int .i64 r2]) ∧ Kd.R k45 45 w' w.heap.size (fun _ => True) v0_ r1 ∧ Below w.heap.size w w' := by
  have hl : l0.length + 1 ≤ 5864062014805 := by
    unfold takeF at h
    split at h
    · assumption
    · cases h
  have ht : takeP l0 a1 a2 a3 = (r1, r2) := by
    unfold takeF at h
    rw [if_pos hl] at h
    exact Option.some.inj h
  cases h1 : right l0 with
  | false =>
    have e := ht
    unfold takeP at e
    rw [if_pos h1] at e
    injection e with e1 e2
    subst e1 e2
    exact take_bad A0 c0 l0 a1 a2 a3 w hr0 hc0 hl (.inl h1)
  | true =>
    cases h2 : mayB a1 a2 with
    | false =>
      have e := ht
      unfold takeP at e
      rw [if_neg (by rw [h1]; simp), if_pos h2] at e
      injection e with e1 e2
      subst e1 e2
      exact take_bad A0 c0 l0 a1 a2 a3 w hr0 hc0 hl (.inr ⟨h1, h2⟩)
    | true => exact take_good A0 c0 l0 a1 a2 a3 w hr0 hc0 hl h1 h2 r1 r2 ht
end Go.Proofs.Ytjabikmofancfaa.H
