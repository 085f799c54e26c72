/- Till the next one rings nothing does, and then something does: the walk of the law WheelNext, and the plain law beneath it. No condition. -/

import Derived.Test.YtngjohckkgmggaaWhPure
import Derived.Test.YtngjohckkgmggaaP11
namespace Go.Proofs.Ytngjohckkgmggaa.H
open Go.RowKit Go.Proofs.YtngjohckkgmggaaW.PrintWords Go.Proofs.YtngjohckkgmggaaW.PrintLast Go.Proofs.Ytngjohckkgmggaa.P
set_option linter.unusedVariables false
set_option linter.unusedSimpArgs false

theorem WheelNext_pure (now : Int) (l : List S46) (hQ : ∀ y ∈ l, (Lit.int .i64 y.f0).wf = true) : ∃ k, waystationlaw06_WheelNext.f k now l = some true := by
  by_cases hl : (l.length : Int) > 100
  · refine ⟨1, ?_⟩
    unfold waystationlaw06_WheelNext.f
    rw [show waystationlaw06_alive.f = some true from rfl, Option.bind_some, if_pos rfl, if_pos hl]
    simp [waystationlaw06_WheelNext.j0]
  · obtain ⟨K, hK⟩ := rright_is now l (by omega)
    refine ⟨K + 200, ?_⟩
    unfold waystationlaw06_WheelNext.f
    rw [show waystationlaw06_alive.f = some true from rfl, Option.bind_some, if_pos rfl, if_neg hl, hK _ (by omega), Option.bind_some]
    have hT := theirs_is now l (by omega) (K + 199) (by omega)
    have hw := wfT_of hQ
    have hlen : (l.map toT).length = l.length := by simp
    generalize hL : l.map toT = L at hT hw hlen ⊢
    cases hr : right now L with
    | false => simp [waystationlaw06_WheelNext.j0]
    | true =>
      simp only [waystationlaw06_WheelNext.j0]
      rw [if_neg (by simp), hT, Option.bind_some, show wheel_Next.f now L = nextF now L from rfl, next_good hw hr]
      by_cases h0 : 0 < L.length
      · have hn := right_now hr
        have h1 := right_at hr 0 h0
        obtain ⟨y, hy⟩ : ∃ y, (L.getD 0 z64).f1 = y := ⟨_, rfl⟩
        have e1 : wrap64 (y - now - 1) = y - now - 1 := by unfold wrap64; omega
        have hlater : right (y - 1) L = true := right_later hr (by omega) (by omega) (fun i hi => by have := right_mono hr i hi 0 (by omega); omega)
        rw [if_pos h0, Option.bind_some, hy, if_pos rfl, e1, Option.bind_some, show wheel_Tick.f now L (y - now - 1) = tickF now L (y - now - 1) from rfl, tick_good hw hr (by omega) (by omega), show now + (y - now - 1) = y - 1 from by omega, (rings_none (.inr (by omega))).1, (rings_none (.inr (by omega))).2, Option.bind_some,
          show wheel_Tick.f (y - 1) L 1 = tickF (y - 1) L 1 from rfl, tick_good hw hlater (by omega) (by omega), show y - 1 + 1 = y from by omega, Option.bind_some, if_pos (by omega), if_pos rfl]
        have := rings_some (nw := y) h0 (by omega)
        simp
        omega
      · rw [if_neg h0, Option.bind_some, if_neg (by simp), if_pos (by omega)]
        rfl
theorem WheelNext_walk (a0 : Int) (A0 : Option Addr) (c0 : Nat) (l0 : List S46) {w : World} (hr0 : Kd.C k46 w A0 l0.length l0) (hc0 : l0.length ≤ c0) (hQ : (Lit.int .i64 a0).wf = true ∧ ∀ y ∈ l0, (Lit.int .i64 y.f0).wf = true ∧ (Lit.int .i64 y.f1).wf = true) :
    Calls Try.prog 8 #[.agg #[.int .i64 a0, .slice A0 l0.length c0]] w fun e w' => e = .returned (.bool true) ∧ Below w.heap.size w w' := by
  obtain ⟨k, hk⟩ := WheelNext_pure a0 l0 (fun y hy => (hQ.2 y hy).1)
  exact waystationlaw06_WheelNext.calls k a0 A0 c0 l0 true w hr0 hc0 hk
end Go.Proofs.Ytngjohckkgmggaa.H
