/- wheel.Next. -/

import Derived.Test.YtngjohckkgmggaaTmH
namespace Go.Proofs.Ytngjohckkgmggaa.H
open Go.RowKit Go.Proofs.YtngjohckkgmggaaW.PrintWords Go.Proofs.YtngjohckkgmggaaW.PrintLast Go.Proofs.Ytngjohckkgmggaa.P
set_option linter.unusedVariables false
set_option linter.unusedSimpArgs false

def nextF (now : Int) (l : List S64) : Option (Int × Bool) :=
  if wfT l = true then (if right now l = true then (if 0 < l.length then some ((l.getD 0 z64).f1 - now, true) else some (0, false)) else some (0, false)) else none

set_option maxRecDepth 100000 in
set_option maxHeartbeats 4000000 in
theorem next_calls (a0_0 : Int) (A0_1 : Option Addr) (c0_1 : Nat) (l0_1 : List (S64)) (r1 : Int) (r2 : Bool) (w : World) (hr0_1 : Kd.C k64 w A0_1 l0_1.length l0_1) (hc0_1 : l0_1.length ≤ c0_1) (h : nextF a0_0 l0_1 = some (r1, r2)) :
    Calls Try.prog 18 #[.agg #[.int .i64 a0_0, .slice A0_1 l0_1.length c0_1]] w fun e w' => e = .returned (.tuple #[.int .i64 r1, .bool r2]) ∧ Below w.heap.size w w' := by
  have hw : wfT l0_1 = true := by
    unfold nextF at h
    split at h
    · assumption
    · cases h
  unfold nextF at h
  rw [if_pos hw] at h
  have HX := Aside0.mk (below_alloc (Below.refl w.heap.size w) (.cells #[.int .i64 a0_0, .slice A0_1 l0_1.length c0_1] 28))
  have HRt := Aside0.mk (right_calls a0_0 A0_1 c0_1 l0_1 (right a0_0 l0_1) (w.alloc (.cells #[.int .i64 a0_0, .slice A0_1 l0_1.length c0_1] 28)) (Kd.C_below hr0_1 HX.out) hc0_1 (by unfold rightF; rw [if_pos hw]))
  cases hR : right a0_0 l0_1 with
  | false =>
    rw [hR] at HRt
    rw [hR, if_neg (by simp)] at h
    injection h with h
    injection h with h1 h2
    subst h1 h2
    clear hR hw hr0_1 hc0_1
    go_enter Try.func18, Try.ntmps18
    go_wp2_with (go_at_call 20; with_reducible refine HRt.out.mono ?_; rintro e w1 ⟨rfl, hb1⟩; have HB1 := Aside0.mk (bt HX.out hb1); clear hb1)
    go_ret2
    exact ⟨rfl, HB1.out⟩
  | true =>
    rw [hR] at HRt
    rw [hR, if_pos rfl] at h
    by_cases hl : 0 < l0_1.length
    · obtain ⟨ad, e0, h0, h1⟩ := at_T64 hr0_1 0 (Int.le_refl _) (by omega)
      cases e0
      have HY : Aside0 (rd_T64 l0_1 0 = l0_1.getD 0 z64) := ⟨rfl⟩
      have ea : ad.add (Int.toNat 0 * 2) = ad := by obtain ⟨b, o, sp⟩ := ad; cases sp <;> simp [Addr.add]
      rw [ea, HY.out] at h0 h1
      rw [if_pos hl] at h
      obtain ⟨m, hm⟩ : ∃ m, l0_1.length = m := ⟨_, rfl⟩
      obtain ⟨hy1, hy2, hn0, hn1⟩ : a0_0 ≤ (l0_1.getD 0 z64).f1 ∧ (l0_1.getD 0 z64).f1 ≤ 1099511627776 ∧ 0 ≤ a0_0 ∧ a0_0 ≤ 1099511627776 := by
        have h2 := hR
        unfold right at h2
        rw [Bool.and_eq_true] at h2
        have h3 := List.all_eq_true.1 h2.2 0 (List.mem_range.2 hl)
        have h4 := h2.1
        unfold okAt at h3
        unfold okNow at h4
        simp at h3 h4
        simp only [List.getD_eq_getElem?_getD]
        omega
      obtain ⟨y, hy⟩ : ∃ y, l0_1.getD 0 z64 = y := ⟨_, rfl⟩
      rw [hy] at h0 h1 h hy1 hy2
      injection h with h
      injection h with h2 h3
      subst h3
      have hw1 : wrap64 (y.f1 - a0_0) = r1 := by rw [← h2]; unfold wrap64; omega
      have k0 := World.block_lt_of_cell? w _ h0
      have k1 := World.block_lt_of_cell? w _ h1
      have CW := Aside0.mk (fun W (hb : Below (w.alloc (.cells #[.int .i64 a0_0, .slice (some ad) l0_1.length c0_1] 28)).heap.size (w.alloc (.cells #[.int .i64 a0_0, .slice (some ad) l0_1.length c0_1] 28)) W) =>
        (show W.cell? ad = some (.int .i64 y.f0) ∧ W.cell? ⟨ad.block, ad.off + 1, none⟩ = some (.int .i64 y.f1) ∧ W.cell? ⟨w.heap.size, 0, none⟩ = some (.int .i64 a0_0) ∧ W.cell? ⟨w.heap.size, 1, none⟩ = some (.slice (some ad) l0_1.length c0_1) from
          ⟨((bt HX.out hb).cell k0).trans h0, ((bt HX.out hb).cell k1).trans h1, (hb.cell (p := ⟨w.heap.size, 0, none⟩) (by simp)).trans (by go_simp), (hb.cell (p := ⟨w.heap.size, 1, none⟩) (by simp)).trans (by go_simp)⟩))
      have cb0 : (m == 0) = false := by rw [beq_eq_false_iff_ne]; omega
      have cb1 : ((m : Int) == 0) = false := by rw [beq_eq_false_iff_ne]; omega
      have cb2 : (0 < m) = True := eq_true (by omega)
      have cb3 : ((0 : Int) < (m : Int)) = True := eq_true (by omega)
      clear hR hw hr0_1 hc0_1 h0 h1 k0 k1 ea hl h2 hy1 hy2 hn0 hn1
      rw [hm] at HRt HX CW ⊢
      clear hm hy
      go_enter Try.func18, Try.ntmps18
      go_wp2_with (go_at_call 20; with_reducible refine HRt.out.mono ?_; rintro e w1 ⟨rfl, hb1⟩; have HB1 := Aside0.mk (bt HX.out hb1); obtain ⟨f0, f1, f2, f3⟩ := CW.out _ hb1; clear hb1)
      go_quiet (fail)
      go_wp2
      go_ret2
      exact ⟨by first | rfl | (simp [hw1]; done), pw_below_drewN HB1.out _⟩
    · rw [if_neg hl] at h
      injection h with h
      injection h with h1 h2
      subst h1 h2
      obtain rfl : l0_1 = [] := List.eq_nil_of_length_eq_zero (by omega)
      have CW := Aside0.mk (fun W (hb : Below (w.alloc (.cells #[.int .i64 a0_0, .slice A0_1 0 c0_1] 28)).heap.size (w.alloc (.cells #[.int .i64 a0_0, .slice A0_1 0 c0_1] 28)) W) =>
        (show W.cell? ⟨w.heap.size, 0, none⟩ = some (.int .i64 a0_0) ∧ W.cell? ⟨w.heap.size, 1, none⟩ = some (.slice A0_1 0 c0_1) from
          ⟨(hb.cell (p := ⟨w.heap.size, 0, none⟩) (by simp)).trans (by go_simp), (hb.cell (p := ⟨w.heap.size, 1, none⟩) (by simp)).trans (by go_simp)⟩))
      clear hR hw hr0_1 hc0_1 hl
      simp only [List.length_nil] at HRt HX ⊢
      go_enter Try.func18, Try.ntmps18
      go_wp2_with (go_at_call 20; with_reducible refine HRt.out.mono ?_; rintro e w1 ⟨rfl, hb1⟩; have HB1 := Aside0.mk (bt HX.out hb1); obtain ⟨f2, f3⟩ := CW.out _ hb1; clear hb1)
      go_ret2
      exact ⟨rfl, HB1.out⟩
end Go.Proofs.Ytngjohckkgmggaa.H
