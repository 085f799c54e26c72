/- A timer that is set rings at its time, whatever else is set; one that is set anew at that alone: the walk of the law WheelSets, and the plain law beneath it. No condition. -/

import Derived.Test.YtngjohckkgmggaaWhPure3
import Derived.Test.YtngjohckkgmggaaP12
namespace Go.Proofs.Ytngjohckkgmggaa.H
open Go.RowKit Go.Proofs.YtngjohckkgmggaaW.PrintWords Go.Proofs.YtngjohckkgmggaaW.PrintLast Go.Proofs.Ytngjohckkgmggaa.P
set_option linter.unusedVariables false
set_option linter.unusedSimpArgs false

theorem sets_l1 (id : Int) (b : List Int) (hb : ∀ x ∈ b, x ≠ id) (hl : b.length ≤ 5000) (d : Nat) : ∀ (k i : Nat), i + d = b.length → d < k → waystationlaw06_WheelSets.l1 k id 0 0 true b (b.length : Int) (i : Int) = some true := by
  induction d with
  | zero =>
    intro k i hi hk
    obtain ⟨k, rfl⟩ : ∃ m, k = m + 1 := ⟨k - 1, by omega⟩
    simp only [waystationlaw06_WheelSets.l1]
    rw [if_neg (by omega), if_pos trivial, if_pos trivial]
  | succ d ih =>
    intro k i hi hk
    obtain ⟨k, rfl⟩ : ∃ m, k = m + 1 := ⟨k - 1, by omega⟩
    simp only [waystationlaw06_WheelSets.l1]
    rw [if_pos (by omega), if_pos (by omega), if_pos (by omega), rdN b i (by omega), if_neg (hb _ (List.getElem_mem _)), w64 i (by omega)]
    exact ih k (i + 1) (by omega) (by omega)
theorem sets_l0 (id : Int) (b a : List Int) (hb : ∀ x ∈ b, x ≠ id) (hl : b.length ≤ 5000) (ha : a.length ≤ 5000) (d : Nat) : ∀ (k i : Nat) (r : Bool), i + d = a.length → d + 6000 < k → (r || (a.drop i).any (fun x => x == id)) = true →
    waystationlaw06_WheelSets.l0 k id b 0 0 r a (a.length : Int) (i : Int) = some true := by
  induction d with
  | zero =>
    intro k i r hi hk hr
    obtain ⟨k, rfl⟩ : ∃ m, k = m + 1 := ⟨k - 1, by omega⟩
    rw [List.drop_of_length_le (by omega)] at hr
    have hr : r = true := by simpa using hr
    subst hr
    simp only [waystationlaw06_WheelSets.l0]
    rw [if_neg (by omega)]
    exact sets_l1 id b hb hl b.length k 0 (by omega) (by omega)
  | succ d ih =>
    intro k i r hi hk hr
    obtain ⟨k, rfl⟩ : ∃ m, k = m + 1 := ⟨k - 1, by omega⟩
    simp only [waystationlaw06_WheelSets.l0]
    rw [drop_at a i (by omega), List.any_cons] at hr
    rw [if_pos (by omega), if_pos (by omega), if_pos (by omega), w64 i (by omega)]
    cases r with
    | true => rw [if_pos rfl]; exact ih k (i + 1) true (by omega) (by omega) (by simp)
    | false =>
      rw [if_neg (by simp), rdN a i (by omega)]
      exact ih k (i + 1) _ (by omega) (by omega) (by simpa using hr)

theorem WheelSets_pure (now : Int) (l : List S46) (id a0 a1 : Int) (hQ : ∀ y ∈ l, (Lit.int .i64 y.f0).wf = true) (hid : (Lit.int .i64 id).wf = true) (h0 : 0 ≤ a0 ∧ a0 < 65536) (h1 : 0 ≤ a1 ∧ a1 < 65536) : ∃ k, waystationlaw06_WheelSets.f k now l id a0 a1 = some true := by
  by_cases hl : (l.length : Int) > 100
  · refine ⟨1, ?_⟩
    unfold waystationlaw06_WheelSets.f
    rw [show waystationlaw06_alive.f = some true from rfl, Option.bind_some, if_pos rfl, if_pos hl]
    simp [waystationlaw06_WheelSets.j0]
  · obtain ⟨K, hK⟩ := rright_is now l (by omega)
    refine ⟨K + 9000, ?_⟩
    unfold waystationlaw06_WheelSets.f
    rw [show waystationlaw06_alive.f = some true from rfl, Option.bind_some, if_pos rfl, if_neg hl, hK _ (by omega), Option.bind_some]
    have hT := theirs_is now l (by omega) (K + 8999) (by omega)
    have hw := wfT_of hQ
    have hlen : (l.map toT).length = l.length := by simp
    generalize hL : l.map toT = L at hT hw hlen ⊢
    cases hr : right now L with
    | false => rw [if_neg (by simp)]; simp [waystationlaw06_WheelSets.j0]
    | true =>
      rw [if_pos rfl]
      by_cases hbig : now > 549755813888
      · rw [decide_eq_true hbig]; simp [waystationlaw06_WheelSets.j0]
      · rw [decide_eq_false hbig]
        have hp := right_whp hr
        have n0 := hp.n0
        have e0 : wrap64 (wrap64 (now + wrap64 a0) + 1) = now + a0 + 1 := by unfold wrap64; omega
        have e1 : wrap64 (wrap64 (now + wrap64 a1) + 1) = now + a1 + 1 := by unfold wrap64; omega
        have e2 : wrap64 a1 = a1 := by unfold wrap64; omega
        -- the first Set
        have s1 := set_good hw hp id (now + a0 + 1)
        rw [if_neg (by omega), if_neg (by omega), if_neg (by omega)] at s1
        have p1 : WhP now (insS ⟨id, now + a0 + 1⟩ (stopL L id)) := hp.set (by omega) (by omega) (.inr (by omega))
        have w1 : wfT (insS ⟨id, now + a0 + 1⟩ (stopL L id)) = true := wfT_ins (wfT_sub hw (fun t ht => ((stop_mem hp).1 ht).1)) hid
        have len1 : (insS ⟨id, now + a0 + 1⟩ (stopL L id)).length ≤ 101 := by rw [insS_len]; have := stopL_len L id; omega
        generalize insS ⟨id, now + a0 + 1⟩ (stopL L id) = L1 at s1 p1 w1 len1
        -- the second one
        have s2 := set_good w1 p1 id (now + a1 + 1)
        rw [if_neg (by omega), if_neg (by omega), if_neg (by omega)] at s2
        have p2 : WhP now (insS ⟨id, now + a1 + 1⟩ (stopL L1 id)) := p1.set (by omega) (by omega) (.inr (by omega))
        have w2 : wfT (insS ⟨id, now + a1 + 1⟩ (stopL L1 id)) = true := wfT_ins (wfT_sub w1 (fun t ht => ((stop_mem p1).1 ht).1)) hid
        have m2 : ∀ t ∈ insS ⟨id, now + a1 + 1⟩ (stopL L1 id), t.f0 = id → t.f1 = now + a1 + 1 := fun t ht hi => by
          rcases insS_mem.1 ht with rfl | ht
          · rfl
          · exact absurd hi ((stop_mem p1).1 ht).2
        have in2 : (⟨id, now + a1 + 1⟩ : S64) ∈ insS ⟨id, now + a1 + 1⟩ (stopL L1 id) := insS_mem.2 (.inl rfl)
        generalize insS ⟨id, now + a1 + 1⟩ (stopL L1 id) = L2 at s2 p2 w2 m2 in2
        -- the ticks
        have t1 := tick_good w2 (whp_right p2) h1.1 (by omega)
        have p3 := p2.left (nw := now + a1) (by omega) (by omega)
        have w3 : wfT (leftP (now + a1) L2) = true := wfT_sub w2 (fun t ht => by rw [(p2.rings _).2] at ht; exact (List.mem_filter.1 ht).1)
        have t2 := tick_good w3 (whp_right p3) (by omega : (0 : Int) ≤ 1) (by omega)
        have l1 : (rungP (now + a1) L2).length ≤ 1000 := by rw [(p2.rings _).1, List.length_map]; exact Nat.le_trans (List.length_filter_le _ _) p2.len
        have l2 : (rungP (now + a1 + 1) (leftP (now + a1) L2)).length ≤ 1000 := by rw [(p3.rings _).1, List.length_map]; exact Nat.le_trans (List.length_filter_le _ _) p3.len
        have no1 : ∀ x ∈ rungP (now + a1) L2, x ≠ id := fun x hx e => by
          rw [(p2.rings _).1] at hx
          obtain ⟨t, ht, rfl⟩ := List.mem_map.1 hx
          obtain ⟨ht1, ht2⟩ := List.mem_filter.1 ht
          have := m2 t ht1 e
          unfold rings at ht2
          have := of_decide_eq_true ht2
          omega
        have yes2 : (rungP (now + a1 + 1) (leftP (now + a1) L2)).any (fun x => x == id) = true := by
          rw [List.any_eq_true]
          refine ⟨id, ?_, by simp⟩
          rw [(p3.rings _).1]
          refine List.mem_map.2 ⟨⟨id, now + a1 + 1⟩, List.mem_filter.2 ⟨?_, ?_⟩, rfl⟩
          · rw [(p2.rings _).2]
            refine List.mem_filter.2 ⟨in2, ?_⟩
            simp [rings]
            omega
          · simp [rings]
        obtain ⟨k, hk⟩ : ∃ k, K + 8999 = k + 1 := ⟨K + 8998, by omega⟩
        rw [show K + 9000 = (k + 1) + 1 from by omega]
        rw [hk] at hT
        simp only [waystationlaw06_WheelSets.j0]
        rw [if_neg (by simp), hT, Option.bind_some, e0, e1]
        dsimp only
        rw [show wheel_Set.f now L id (now + a0 + 1) = setF now L id (now + a0 + 1) from rfl, s1, Option.bind_some]
        dsimp only
        rw [show wheel_Set.f now L1 id (now + a1 + 1) = setF now L1 id (now + a1 + 1) from rfl, s2, Option.bind_some]
        dsimp only
        rw [if_pos rfl, show ((0 : Int) != 0) = false from rfl]
        simp only [waystationlaw06_WheelSets.j1]
        rw [if_neg (by simp), e2, show wheel_Tick.f now L2 a1 = tickF now L2 a1 from rfl, t1, Option.bind_some]
        dsimp only
        rw [show wheel_Tick.f (now + a1) (leftP (now + a1) L2) 1 = tickF (now + a1) (leftP (now + a1) L2) 1 from rfl, t2, Option.bind_some]
        dsimp only
        exact sets_l0 id _ _ no1 (by omega) (by omega) (rungP (now + a1 + 1) (leftP (now + a1) L2)).length k 0 false (by omega) (by omega) (by rw [Bool.false_or, List.drop_zero]; exact yes2)
theorem WheelSets_walk (a0 : Int) (A0 : Option Addr) (c0 : Nat) (l0 : List S46) {w : World} (hr0 : Kd.C k46 w A0 l0.length l0) (hc0 : l0.length ≤ c0) (hQ : (Lit.int .i64 a0).wf = true ∧ ∀ y ∈ l0, (Lit.int .i64 y.f0).wf = true ∧ (Lit.int .i64 y.f1).wf = true)
    (a1 : Int) (w1 : (Lit.int .i64 a1).wf = true) (x0 x1 : Int) (hx : (Lit.int .u16 (x0, x1).1).wf = true ∧ (Lit.int .u16 (x0, x1).2).wf = true) :
    Calls Try.prog 7 #[.agg #[.int .i64 a0, .slice A0 l0.length c0], .int .i64 a1, .agg #[.int .u16 x0, .int .u16 x1]] w fun e w' => e = .returned (.bool true) ∧ Below w.heap.size w w' := by
  obtain ⟨k, hk⟩ := WheelSets_pure a0 l0 a1 x0 x1 (fun y hy => (hQ.2 y hy).1) w1 (wf16 hx.1) (wf16 hx.2)
  exact waystationlaw06_WheelSets.calls k a0 A0 c0 l0 a1 x0 x1 true w hr0 hc0 hk
end Go.Proofs.Ytngjohckkgmggaa.H
