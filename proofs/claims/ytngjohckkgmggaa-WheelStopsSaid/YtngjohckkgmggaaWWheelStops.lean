/- Who is stopped does not ring, all others as they would: the walk of the law WheelStops, and the plain law beneath it. No condition. -/

import Derived.Test.YtngjohckkgmggaaWhPure2
import Derived.Test.YtngjohckkgmggaaP11
namespace Go.Proofs.Ytngjohckkgmggaa.H
open Go.RowKit Go.Proofs.YtngjohckkgmggaaW.PrintWords Go.Proofs.YtngjohckkgmggaaW.PrintLast Go.Proofs.Ytngjohckkgmggaa.P
set_option linter.unusedVariables false
set_option linter.unusedSimpArgs false

theorem rdN (l : List Int) (i : Nat) (h : i < l.length) : rd l (i : Int) = l[i] := by unfold rd; rw [Int.toNat_natCast, List.getD_eq_getElem?_getD, List.getElem?_eq_getElem h]; rfl
theorem same_loop (l : List Int) (hl : l.length ≤ 5000) (d : Nat) : ∀ (k i : Nat), i + d = l.length → d < k → waystationlaw06_same.l0 k l l (l.length : Int) (i : Int) = some true := by
  induction d with
  | zero =>
    intro k i hi hk
    obtain ⟨k, rfl⟩ : ∃ m, k = m + 1 := ⟨k - 1, by omega⟩
    simp only [waystationlaw06_same.l0]
    rw [if_neg (by omega)]
  | succ d ih =>
    intro k i hi hk
    obtain ⟨k, rfl⟩ : ∃ m, k = m + 1 := ⟨k - 1, by omega⟩
    simp only [waystationlaw06_same.l0]
    rw [if_pos (by omega), if_pos (by omega), if_pos (by omega), if_pos (by omega), if_pos trivial, w64 i (by omega), ih k (i + 1) (by omega) (by omega)]
theorem same_is (l : List Int) (hl : l.length ≤ 5000) (k : Nat) (hk : l.length < k) : waystationlaw06_same.f k l l = some true := by
  unfold waystationlaw06_same.f
  rw [if_pos rfl]
  have := same_loop l hl l.length k 0 (by omega) hk
  simpa using this

theorem stops_l0 (id cd : Int) (A : List Int) (hcd : cd = 0 ∨ cd = 7) (hA : A.length ≤ 5000) (B : List Int) (hB : B.length ≤ 5000) (d : Nat) : ∀ (k i : Nat) (acc : List Int), i + d = B.length → d + 5010 ≤ k → acc.length ≤ i → acc ++ (B.drop i).filter (fun x => !(x == id)) = A →
    waystationlaw06_WheelStops.l0 k id cd A 0 0 acc B (B.length : Int) (i : Int) = some true := by
  induction d with
  | zero =>
    intro k i acc hi hk ha he
    obtain ⟨k, rfl⟩ : ∃ m, k = m + 1 := ⟨k - 1, by omega⟩
    rw [List.drop_of_length_le (by omega)] at he
    have he : acc = A := by simpa using he
    simp only [waystationlaw06_WheelStops.l0]
    rw [if_neg (by omega), if_pos trivial, if_pos trivial, he, same_is A hA _ (by omega), Option.bind_some, if_pos rfl]
    rcases hcd with rfl | rfl
    · rw [if_pos rfl]
    · rw [if_neg (by omega)]
      rfl
  | succ d ih =>
    intro k i acc hi hk ha he
    obtain ⟨k, rfl⟩ : ∃ m, k = m + 1 := ⟨k - 1, by omega⟩
    simp only [waystationlaw06_WheelStops.l0]
    rw [if_pos (by omega), if_pos (by omega), if_pos (by omega), rdN B i (by omega), w64 i (by omega)]
    rw [drop_at B i (by omega), List.filter_cons] at he
    by_cases h : B[i]'(by omega) = id
    · rw [if_pos h]
      rw [if_neg (by simp [h])] at he
      exact ih k (i + 1) acc (by omega) (by omega) (by omega) he
    · rw [if_neg h, if_pos (by omega)]
      rw [if_pos (by simp [h])] at he
      exact ih k (i + 1) _ (by omega) (by omega) (by simp; omega) (by simpa using he)

theorem rung_stop {now : Int} {l : List S64} (h : WhP now l) (id nw : Int) : rungP nw (stopL l id) = (rungP nw l).filter (fun x => !(x == id)) := by
  rw [((h.stop id).rings nw).1, (h.rings nw).1, stopL_filter h id, List.filter_filter, List.filter_map, List.filter_filter]
  congr 1
  apply List.filter_congr
  intro t _
  simp [isId, Bool.and_comm]

theorem WheelStops_pure (now : Int) (l : List S46) (id by_ : Int) (hQ : ∀ y ∈ l, (Lit.int .i64 y.f0).wf = true) (hb : 0 ≤ by_ ∧ by_ < 65536) : ∃ k, waystationlaw06_WheelStops.f k now l id by_ = some true := by
  by_cases hl : (l.length : Int) > 100
  · refine ⟨1, ?_⟩
    unfold waystationlaw06_WheelStops.f
    rw [show waystationlaw06_alive.f = some true from rfl, Option.bind_some, if_pos rfl, if_pos hl]
    simp [waystationlaw06_WheelStops.j0]
  · obtain ⟨K, hK⟩ := rright_is now l (by omega)
    refine ⟨K + 9000, ?_⟩
    unfold waystationlaw06_WheelStops.f
    rw [show waystationlaw06_alive.f = some true from rfl, Option.bind_some, if_pos rfl, if_neg hl, hK _ (by omega), Option.bind_some]
    have hT := theirs_is now l (by omega) (K + 8999) (by omega)
    have hw := wfT_of hQ
    have hlen : (l.map toT).length = l.length := by simp
    generalize hL : l.map toT = L at hT hw hlen ⊢
    cases hr : right now L with
    | false => rw [if_neg (by simp)]; simp [waystationlaw06_WheelStops.j0]
    | true =>
      rw [if_pos rfl]
      by_cases hbig : now > 549755813888
      · rw [decide_eq_true hbig]; simp [waystationlaw06_WheelStops.j0]
      · rw [decide_eq_false hbig]
        have hp := right_whp hr
        have e1 : wrap64 by_ = by_ := by unfold wrap64; omega
        obtain ⟨cd, hst, hcd⟩ : ∃ cd, stopF now L id = some (now, stopL L id, cd) ∧ (cd = 0 ∨ cd = 7) := by
          unfold stopF stopL
          rw [if_pos ⟨hw, by omega⟩, if_pos hr]
          split
          · exact ⟨7, rfl, .inr rfl⟩
          · exact ⟨0, rfl, .inl rfl⟩
        have hw2 : wfT (stopL L id) = true := wfT_sub hw (fun t ht => by rw [stopL_filter hp id] at ht; exact (List.mem_filter.1 ht).1)
        have hn := right_now hr
        have hlr : (rungP (now + by_) L).length ≤ L.length := by rw [(hp.rings _).1, List.length_map]; exact List.length_filter_le _ _
        simp only [waystationlaw06_WheelStops.j0]
        rw [if_neg (by simp), hT, Option.bind_some, show wheel_Stop.f now L id = stopF now L id from rfl, hst, Option.bind_some, e1,
          show wheel_Tick.f now (stopL L id) by_ = tickF now (stopL L id) by_ from rfl, tick_good hw2 (whp_right (hp.stop id)) hb.1 (by omega), Option.bind_some, Option.bind_some,
          show wheel_Tick.f now L by_ = tickF now L by_ from rfl, tick_good hw hr hb.1 (by omega), Option.bind_some]
        have hA := rung_stop hp id (now + by_)
        have := stops_l0 id cd (rungP (now + by_) (stopL L id)) hcd (by rw [hA]; exact Nat.le_trans (List.length_filter_le _ _) (by omega)) (rungP (now + by_) L) (by omega) (rungP (now + by_) L).length (K + 8999) 0 [] (by omega) (by omega) (by simp) (by rw [hA]; simp)
        simpa using this
theorem wf16 {y : Int} (h : (Lit.int .u16 y).wf = true) : 0 ≤ y ∧ y < 65536 := by
  have h2 : IntKind.u16.min ≤ y ∧ y ≤ IntKind.u16.max := by simpa [Lit.wf] using h
  exact ⟨h2.1, Int.lt_of_le_of_lt h2.2 (by decide)⟩
theorem WheelStops_walk (a0 : Int) (A0 : Option Addr) (c0 : Nat) (l0 : List S46) {w : World} (hr0 : Kd.C k46 w A0 l0.length l0) (hc0 : l0.length ≤ c0) (hQ : (Lit.int .i64 a0).wf = true ∧ ∀ y ∈ l0, (Lit.int .i64 y.f0).wf = true ∧ (Lit.int .i64 y.f1).wf = true)
    (a1 : Int) (w1 : (Lit.int .i64 a1).wf = true) (a2 : Int) (w2 : (Lit.int .u16 a2).wf = true) :
    Calls Try.prog 9 #[.agg #[.int .i64 a0, .slice A0 l0.length c0], .int .i64 a1, .int .u16 a2] w fun e w' => e = .returned (.bool true) ∧ Below w.heap.size w w' := by
  obtain ⟨k, hk⟩ := WheelStops_pure a0 l0 a1 a2 (fun y hy => (hQ.2 y hy).1) (wf16 w2)
  exact waystationlaw06_WheelStops.calls k a0 A0 c0 l0 a1 a2 true w hr0 hc0 hk
end Go.Proofs.Ytngjohckkgmggaa.H
