/- Plain facts of right wheels. -/

import Derived.Test.YtngjohckkgmggaaWhLoops
namespace Go.Proofs.Ytngjohckkgmggaa.H
open Go.RowKit Go.Proofs.YtngjohckkgmggaaW.PrintWords Go.Proofs.YtngjohckkgmggaaW.PrintLast Go.Proofs.Ytngjohckkgmggaa.P
set_option linter.unusedVariables false
set_option linter.unusedSimpArgs false

theorem right_now {now : Int} {l : List S64} (h : right now l = true) : 0 ≤ now ∧ now ≤ 1099511627776 ∧ l.length ≤ 1000 := by
  unfold right okNow at h
  simp at h
  omega
theorem right_at {now : Int} {l : List S64} (h : right now l = true) (i : Nat) (hi : i < l.length) :
    (∀ j, j < i → (l.getD j z64).f0 ≠ (l.getD i z64).f0) ∧ now < (l.getD i z64).f1 ∧ (l.getD i z64).f1 ≤ 1099511627776 ∧ (0 < i → ordI (l.getD (i - 1) z64) (l.getD i z64) < 0) := by
  unfold right at h
  rw [Bool.and_eq_true] at h
  have h3 := List.all_eq_true.1 h.2 i (List.mem_range.2 hi)
  unfold okAt at h3
  rw [Bool.not_eq_true', Bool.or_eq_false_iff, Bool.or_eq_false_iff, Bool.or_eq_false_iff] at h3
  obtain ⟨⟨⟨a, b⟩, c⟩, d⟩ := h3
  refine ⟨fun j hj e => ?_, by have := of_decide_eq_false b; omega, by have := of_decide_eq_false c; omega, fun h0 => ?_⟩
  · rw [List.any_eq_false] at a
    have hj2 : j < (l.take i).length := by simp; omega
    have := a ((l.take i)[j]) (List.getElem_mem hj2)
    have e2 : (l.take i)[j] = l.getD j z64 := by rw [List.getElem_take, List.getD_eq_getElem?_getD, List.getElem?_eq_getElem (by omega)]; rfl
    rw [e2, e] at this
    simp at this
  · rw [decide_eq_true h0, Bool.true_and] at d
    have := of_decide_eq_false d
    omega
theorem ord_at {a b : S64} (h : ordI a b < 0) : a.f1 ≤ b.f1 := by
  unfold ordI orI cmpI at h
  split at h
  · split at * <;> (try split at *) <;> omega
  · split at * <;> (try split at *) <;> omega
theorem right_mono {now : Int} {l : List S64} (h : right now l = true) (j : Nat) (hj : j < l.length) : ∀ i, i ≤ j → (l.getD i z64).f1 ≤ (l.getD j z64).f1 := by
  induction j with
  | zero =>
    intro i hi
    obtain rfl : i = 0 := by omega
    exact Int.le_refl _
  | succ j ih =>
    intro i hi
    by_cases e : i = j + 1
    · subst e; exact Int.le_refl _
    · have h1 := ih (by omega) i (by omega)
      have h2 := ord_at ((right_at h (j + 1) hj).2.2.2 (by omega))
      rw [show j + 1 - 1 = j from rfl] at h2
      omega
theorem right_later {now now' : Int} {l : List S64} (h : right now l = true) (h0 : 0 ≤ now') (h1 : now' ≤ 1099511627776) (h2 : ∀ i, i < l.length → now' < (l.getD i z64).f1) : right now' l = true := by
  have hn := right_now h
  refine right_yes (by unfold okNow; simp; omega) (fun i hi => ?_)
  unfold right at h
  rw [Bool.and_eq_true] at h
  have h3 := List.all_eq_true.1 h.2 i (List.mem_range.2 hi)
  unfold okAt at h3 ⊢
  rw [Bool.not_eq_true', Bool.or_eq_false_iff, Bool.or_eq_false_iff, Bool.or_eq_false_iff] at h3 ⊢
  exact ⟨⟨⟨h3.1.1.1, decide_eq_false (by have := h2 i hi; omega)⟩, h3.1.2⟩, h3.2⟩

theorem tick_good {now by_ : Int} {l : List S64} (hw : wfT l = true) (hr : right now l = true) (h0 : 0 ≤ by_) (h1 : now + by_ ≤ 1099511627776) : tickF now l by_ = some (now + by_, leftP (now + by_) l, rungP (now + by_) l, 0) := by
  have hn := right_now hr
  unfold tickF
  rw [if_pos ⟨hw, by omega⟩, if_pos hr, if_neg (by rw [decide_eq_true_iff]; omega), if_neg (by rw [decide_eq_true_iff]; omega)]
theorem next_good {now : Int} {l : List S64} (hw : wfT l = true) (hr : right now l = true) : nextF now l = if 0 < l.length then some ((l.getD 0 z64).f1 - now, true) else some (0, false) := by
  unfold nextF
  rw [if_pos hw, if_pos hr]
theorem rings_none {nw : Int} {l : List S64} (h : l = [] ∨ nw < (l.getD 0 z64).f1) : rungP nw l = [] ∧ leftP nw l = l := by
  cases l with
  | nil => exact ⟨rfl, rfl⟩
  | cons y l =>
    have : rings nw y = false := by
      rcases h with h | h
      · cases h
      · unfold rings; exact decide_eq_false (by simpa using h)
    simp [rungP, leftP, List.takeWhile, List.dropWhile, this]
theorem rings_some {nw : Int} {l : List S64} (h0 : 0 < l.length) (h : (l.getD 0 z64).f1 ≤ nw) : 1 ≤ (rungP nw l).length := by
  cases l with
  | nil => simp at h0
  | cons y l =>
    have : rings nw y = true := by unfold rings; exact decide_eq_true (by simpa using h)
    simp [rungP, List.takeWhile, this]
theorem wfT_of {l : List S46} (h : ∀ y ∈ l, (Lit.int .i64 y.f0).wf = true) : wfT (l.map toT) = true := by
  unfold wfT
  rw [List.all_eq_true]
  intro t ht
  obtain ⟨y, hy, rfl⟩ := List.mem_map.1 ht
  exact h y hy
end Go.Proofs.Ytngjohckkgmggaa.H
