/- Time that goes on in pieces rings the same, in the same order, as at once: the walk of the law WheelPieces, and the plain law beneath it. No condition. -/

import Derived.Test.YtngjohckkgmggaaWhPure3
import Derived.Test.YtngjohckkgmggaaP9
namespace Go.Proofs.Ytngjohckkgmggaa.H
open Go.RowKit Go.Proofs.YtngjohckkgmggaaW.PrintWords Go.Proofs.YtngjohckkgmggaaW.PrintLast Go.Proofs.Ytngjohckkgmggaa.P
set_option linter.unusedVariables false
set_option linter.unusedSimpArgs false

theorem pieces_l0 (now : Int) (l : List S46) (hw : wfT (l.map toT) = true) (h : WhP now (l.map toT)) (ps : List Int) (hp : ∀ y ∈ ps, 0 ≤ y ∧ y < 65536) (hn : ps.length ≤ 100) (d : Nat) :
    ∀ (k i : Nat) (sum : Int), i + d = ps.length → d + 6000 < k → 0 ≤ sum → now + sum ≤ 1099511627776 →
    waystationlaw06_WheelPieces.l0 k (rungP (now + sum) (l.map toT)) sum ps (ps.length : Int) (i : Int) now l (now + sum) (leftP (now + sum) (l.map toT)) = some true := by
  have hlen := h.len
  have hlen2 : l.length ≤ 1000 := by simpa using hlen
  have n0 := h.n0
  induction d with
  | zero =>
    intro k i sum hi hk h0 h1
    obtain ⟨k, rfl⟩ : ∃ m, k = m + 1 := ⟨k - 1, by omega⟩
    have hr : (rungP (now + sum) (l.map toT)).length ≤ 1000 := by rw [(h.rings _).1, List.length_map]; exact Nat.le_trans (List.length_filter_le _ _) hlen
    have hf : (leftP (now + sum) (l.map toT)).length ≤ 1000 := by rw [(h.rings _).2]; exact Nat.le_trans (List.length_filter_le _ _) hlen
    simp only [waystationlaw06_WheelPieces.l0]
    rw [if_neg (by omega), theirs_is now l (by omega) k (by omega), Option.bind_some, show wheel_Tick.f now (l.map toT) sum = tickF now (l.map toT) sum from rfl, tick_good hw (whp_right h) h0 h1, Option.bind_some]
    dsimp only
    rw [if_pos rfl, same_is _ (by omega) k (by omega), Option.bind_some, if_pos rfl,
      ours_is _ _ (by omega) k (by omega), Option.bind_some, Option.bind_some, sameO_is _ _ (by simp; omega) k (by simp; omega), Option.bind_some]
  | succ d ih =>
    intro k i sum hi hk h0 h1
    obtain ⟨k, rfl⟩ : ∃ m, k = m + 1 := ⟨k - 1, by omega⟩
    have hi2 : i < ps.length := by omega
    obtain ⟨y, hy⟩ : ∃ y, ps[i] = y := ⟨_, rfl⟩
    have hyb := hp y (by rw [← hy]; exact List.getElem_mem hi2)
    have e1 : wrap64 y = y := by unfold wrap64; omega
    have hL : WhP (now + sum) (leftP (now + sum) (l.map toT)) := h.left (by omega) h1
    have hwL : wfT (leftP (now + sum) (l.map toT)) = true := wfT_sub hw (fun t ht => by rw [(h.rings _).2] at ht; exact (List.mem_filter.1 ht).1)
    simp only [waystationlaw06_WheelPieces.l0]
    rw [if_pos (by omega), if_pos (by omega), if_pos (by omega), rdN ps i hi2, hy, e1, show wheel_Tick.f (now + sum) (leftP (now + sum) (l.map toT)) y = tickF (now + sum) (leftP (now + sum) (l.map toT)) y from rfl, tick_any hwL hL, if_neg (by omega)]
    by_cases hbig : 1099511627776 - (now + sum) < y
    · rw [if_pos hbig, Option.bind_some]
      dsimp only
      rw [if_neg (by omega), if_pos rfl]
      rfl
    · have e2 : wrap64 (sum + y) = sum + y := by unfold wrap64; omega
      have hpc := pieces (n1 := now + sum) (n2 := now + (sum + y)) (by omega) (l.map toT)
      have hr : (rungP (now + (sum + y)) (l.map toT)).length ≤ 1000 := by rw [(h.rings _).1, List.length_map]; exact Nat.le_trans (List.length_filter_le _ _) hlen
      have hs : (rungP (now + sum) (l.map toT)).length + (rungP (now + (sum + y)) (leftP (now + sum) (l.map toT))).length ≤ 1000 := by rw [hpc.1] at hr; simpa using hr
      rw [if_neg hbig, show now + sum + y = now + (sum + y) from by omega, Option.bind_some]
      dsimp only
      rw [if_pos rfl, if_pos (by omega), e2, w64 i (by omega), ← hpc.1, hpc.2]
      exact ih k (i + 1) (sum + y) (by omega) (by omega) (by omega) (by omega)

theorem WheelPieces_pure (now : Int) (l : List S46) (ps : List Int) (hQ : ∀ y ∈ l, (Lit.int .i64 y.f0).wf = true) (hb : ∀ y ∈ ps, (Lit.int .u16 y).wf = true) : ∃ k, waystationlaw06_WheelPieces.f k now l ps = some true := by
  by_cases hl : (l.length : Int) > 100
  · refine ⟨1, ?_⟩
    unfold waystationlaw06_WheelPieces.f
    rw [show waystationlaw06_alive.f = some true from rfl, Option.bind_some, if_pos rfl, if_pos hl]
    simp [waystationlaw06_WheelPieces.j0]
  · by_cases hn : (ps.length : Int) > 100
    · refine ⟨1, ?_⟩
      unfold waystationlaw06_WheelPieces.f
      rw [show waystationlaw06_alive.f = some true from rfl, Option.bind_some, if_pos rfl, if_neg hl, if_pos hn]
      simp [waystationlaw06_WheelPieces.j0]
    · obtain ⟨K, hK⟩ := rright_is now l (by omega)
      refine ⟨K + 9000, ?_⟩
      unfold waystationlaw06_WheelPieces.f
      rw [show waystationlaw06_alive.f = some true from rfl, Option.bind_some, if_pos rfl, if_neg hl, if_neg hn, hK _ (by omega), Option.bind_some]
      cases hr : right now (l.map toT) with
      | false => simp [waystationlaw06_WheelPieces.j0]
      | true =>
        have h := right_whp hr
        have n1 := h.n1
        have hr0 : rungP (now + 0) (l.map toT) = [] ∧ leftP (now + 0) (l.map toT) = l.map toT := by
          rw [Int.add_zero]
          refine rings_none ?_
          by_cases e : 0 < (l.map toT).length
          · exact .inr (right_at hr 0 e).2.1
          · exact .inl (List.length_eq_zero_iff.1 (by omega))
        simp only [waystationlaw06_WheelPieces.j0]
        rw [if_neg (by simp), theirs_is now l (by omega) _ (by omega), Option.bind_some]
        have := pieces_l0 now l (wfT_of hQ) h ps (fun y hy => wf16 (hb y hy)) (by omega) ps.length (K + 8999) 0 0 (by omega) (by omega) (by omega) (by omega)
        rw [hr0.1, hr0.2, Int.add_zero] at this
        exact this
theorem WheelPieces_walk (a0 : Int) (A0 : Option Addr) (c0 : Nat) (l0 : List S46) {w : World} (hr0 : Kd.C k46 w A0 l0.length l0) (hc0 : l0.length ≤ c0) (hQ : (Lit.int .i64 a0).wf = true ∧ ∀ y ∈ l0, (Lit.int .i64 y.f0).wf = true ∧ (Lit.int .i64 y.f1).wf = true)
    (A1 : Option Addr) (c1 : Nat) (l1 : List Int) (hr1 : Kd.C (Kd.int .u16) w A1 l1.length l1) (hc1 : l1.length ≤ c1) (hQ1 : ∀ y ∈ l1, (Lit.int .u16 y).wf = true) :
    Calls Try.prog 5 #[.agg #[.int .i64 a0, .slice A0 l0.length c0], .slice A1 l1.length c1] w fun e w' => e = .returned (.bool true) ∧ Below w.heap.size w w' := by
  obtain ⟨k, hk⟩ := WheelPieces_pure a0 l0 l1 (fun y hy => (hQ.2 y hy).1) hQ1
  exact waystationlaw06_WheelPieces.calls k a0 A0 c0 l0 A1 c1 l1 true w hr0 hc0 hr1 hc1 hk
end Go.Proofs.Ytngjohckkgmggaa.H
