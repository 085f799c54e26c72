-- PRINTED by print.py (a twelfth state) out of the translation. Not trusted: Lean checks it.
import Derived.Test.YtjabikmofancfaaP0
namespace Go.Proofs.Ytjabikmofancfaa.P
open Go.RowKit Go.Proofs.YtjabikmofancfaaW.PrintWords Go.Proofs.YtjabikmofancfaaW.PrintLast Go.Proofs.YtjabikmofancfaaW.PrintMore
attribute [local go_sem] max2_int min2_int max_two min_two max_three min_three max_four min_four   -- for this text's walks alone
set_option linter.unusedVariables false
set_option linter.unusedSimpArgs false

/-! ### waystationref07_may: function 17 -/
def waystationref07_may.f (a0 : Int) (a1 : Int) : Option (Bool) := if a1 < 64 then (if a0 ≥ 0 then (some (decide (a0 < 1000))) else (some false)) else (some false)
set_option maxHeartbeats 8000000 in
set_option maxRecDepth 100000 in
theorem waystationref07_may.calls (a0 : Int) (a1 : Int) (r : Bool) (w : World) (h : waystationref07_may.f a0 a1 = some r) :
    Calls Try.prog 17 #[.int .i64 a0, .int .u8 a1] w fun e w' => e = .returned (.bool r) ∧ Drawn0 w w' := by
  have H : (if a1 < 64 then (if a0 ≥ 0 then (some (decide (a0 < 1000))) else (some false)) else (some false)) = some r := h
  clear h
  by_cases c3 : a1 < 64
  · rw [if_pos c3] at H
    have c3b0 : decide (a1 < 64) = true := decide_eq_true c3
    clear c3
    by_cases c4 : a0 ≥ 0
    · rw [if_pos c4] at H
      have c4b0 : decide (0 ≤ a0) = true := decide_eq_true c4
      clear c4
      obtain rfl := Option.some.inj H
      go_enter Try.func17, Try.ntmps17
      go_wp2
      go_ret
      exact ⟨by first | rfl | (simp; done) | (simp [*]; done), by repeat (first | exact Drawn0.refl _ | apply Drawn0.step)⟩
    · rw [if_neg c4] at H
      have c4b0 : decide (0 ≤ a0) = false := decide_eq_false c4
      clear c4
      obtain rfl := Option.some.inj H
      go_enter Try.func17, Try.ntmps17
      go_wp2
      go_ret
      exact ⟨by first | rfl | (simp; done) | (simp [*]; done), by repeat (first | exact Drawn0.refl _ | apply Drawn0.step)⟩
  · rw [if_neg c3] at H
    have c3b0 : decide (a1 < 64) = false := decide_eq_false c3
    clear c3
    obtain rfl := Option.some.inj H
    go_enter Try.func17, Try.ntmps17
    go_wp2
    go_ret
    exact ⟨by first | rfl | (simp; done) | (simp [*]; done), by repeat (first | exact Drawn0.refl _ | apply Drawn0.step)⟩

/-! ### waystationref07_Right: function 8 -/
mutual
def waystationref07_Right.l0 : Nat → List (S46) → Int → Option (Bool)
  | 0, _, _ => none
  | k + 1, x0, x3 => if x3 < (x0.length : Int) then (if 0 ≤ x3 then ((waystationref07_may.f ((rd_T46 x0 x3).f1) ((rd_T46 x0 x3).f0)).bind fun t128 => (if t128 = true then (if x3 > 0 then (if 0 ≤ (wrap64 (x3 - 1)) then (if (wrap64 (x3 - 1)) < (x0.length : Int) then (if ((rd_T46 x0 (wrap64 (x3 - 1))).f0) < ((rd_T46 x0 x3).f0) then (waystationref07_Right.j1 k x0 x3 (!true) ((rd_T46 x0 x3).f0) ((rd_T46 x0 x3).f1) ((rd_T46 x0 x3).f2)) else (if ((rd_T46 x0 (wrap64 (x3 - 1))).f0) = ((rd_T46 x0 x3).f0) then (waystationref07_Right.j1 k x0 x3 (!(decide (((rd_T46 x0 (wrap64 (x3 - 1))).f1) < ((rd_T46 x0 x3).f1)))) ((rd_T46 x0 x3).f0) ((rd_T46 x0 x3).f1) ((rd_T46 x0 x3).f2)) else (waystationref07_Right.j1 k x0 x3 (!false) ((rd_T46 x0 x3).f0) ((rd_T46 x0 x3).f1) ((rd_T46 x0 x3).f2)))) else (none)) else (none)) else (waystationref07_Right.j1 k x0 x3 false ((rd_T46 x0 x3).f0) ((rd_T46 x0 x3).f1) ((rd_T46 x0 x3).f2))) else (some false))) else (none)) else (some true)
def waystationref07_Right.j1 : Nat → List (S46) → Int → Bool → Int → Int → Bool → Option (Bool)
  | 0, _, _, _, _, _, _ => none
  | k + 1, x0, x3, x57, x128000, x128001, x128002 => if x57 = true then (some false) else (waystationref07_Right.l1 k x0 x3 0 x128000 x128001 x128002)
def waystationref07_Right.l1 : Nat → List (S46) → Int → Int → Int → Int → Bool → Option (Bool)
  | 0, _, _, _, _, _, _ => none
  | k + 1, x0, x3, x5, x128000, x128001, x128002 => if x5 < (x0.length : Int) then (if x5 = x3 then (waystationref07_Right.l1 k x0 x3 (wrap64 (x5 + 1)) x128000 x128001 x128002) else (if 0 ≤ x5 then (if ((rd_T46 x0 x5).f0) = x128000 then (if x128002 = true then (some false) else (waystationref07_Right.l1 k x0 x3 (wrap64 (x5 + 1)) x128000 x128001 x128002)) else (waystationref07_Right.l1 k x0 x3 (wrap64 (x5 + 1)) x128000 x128001 x128002)) else (none))) else (waystationref07_Right.l0 k x0 (wrap64 (x3 + 1)))
end
def waystationref07_Right.f (k : Nat) (l0 : List (S46)) : Option (Bool) := waystationref07_Right.l0 k l0 0
theorem waystationref07_Right.mono_l : ∀ k, (∀ y0 y1, LeO (waystationref07_Right.l0 k y0 y1) (waystationref07_Right.l0 (k + 1) y0 y1)) ∧ (∀ y0 y1 y2 y3 y4 y5, LeO (waystationref07_Right.j1 k y0 y1 y2 y3 y4 y5) (waystationref07_Right.j1 (k + 1) y0 y1 y2 y3 y4 y5)) ∧ (∀ y0 y1 y2 y3 y4 y5, LeO (waystationref07_Right.l1 k y0 y1 y2 y3 y4 y5) (waystationref07_Right.l1 (k + 1) y0 y1 y2 y3 y4 y5))
  | 0 => ⟨fun _ _ r h => by simp [waystationref07_Right.l0] at h, fun _ _ _ _ _ _ r h => by simp [waystationref07_Right.j1] at h, fun _ _ _ _ _ _ r h => by simp [waystationref07_Right.l1] at h⟩
  | k + 1 => by
    obtain ⟨ih0, ih1, ih2⟩ := waystationref07_Right.mono_l k
    refine ⟨?_, ?_, ?_⟩
    · intro y0 y1
      unfold waystationref07_Right.l0
      repeat' first
      | (with_reducible exact ih0 _ _)
      | (with_reducible exact ih1 _ _ _ _ _ _)
      | (with_reducible exact ih2 _ _ _ _ _ _)
      | (with_reducible exact LeO.refl _)
      | (with_reducible exact LeO.none _)
      | (with_reducible refine LeO.ite ?_ ?_)
      | (with_reducible refine LeO.bind ?_ (fun _ => ?_))
      | exact ih0 _ _
      | exact ih1 _ _ _ _ _ _
      | exact ih2 _ _ _ _ _ _
      | exact LeO.none _
      | refine LeO.ite ?_ ?_
      | refine LeO.bind ?_ (fun _ => ?_)
    · intro y0 y1 y2 y3 y4 y5
      unfold waystationref07_Right.j1
      repeat' first
      | (with_reducible exact ih0 _ _)
      | (with_reducible exact ih1 _ _ _ _ _ _)
      | (with_reducible exact ih2 _ _ _ _ _ _)
      | (with_reducible exact LeO.refl _)
      | (with_reducible exact LeO.none _)
      | (with_reducible refine LeO.ite ?_ ?_)
      | (with_reducible refine LeO.bind ?_ (fun _ => ?_))
      | exact ih0 _ _
      | exact ih1 _ _ _ _ _ _
      | exact ih2 _ _ _ _ _ _
      | exact LeO.none _
      | refine LeO.ite ?_ ?_
      | refine LeO.bind ?_ (fun _ => ?_)
    · intro y0 y1 y2 y3 y4 y5
      unfold waystationref07_Right.l1
      repeat' first
      | (with_reducible exact ih0 _ _)
      | (with_reducible exact ih1 _ _ _ _ _ _)
      | (with_reducible exact ih2 _ _ _ _ _ _)
      | (with_reducible exact LeO.refl _)
      | (with_reducible exact LeO.none _)
      | (with_reducible refine LeO.ite ?_ ?_)
      | (with_reducible refine LeO.bind ?_ (fun _ => ?_))
      | exact ih0 _ _
      | exact ih1 _ _ _ _ _ _
      | exact ih2 _ _ _ _ _ _
      | exact LeO.none _
      | refine LeO.ite ?_ ?_
      | refine LeO.bind ?_ (fun _ => ?_)
theorem waystationref07_Right.mono : ∀ a0 k, LeO (waystationref07_Right.f k a0) (waystationref07_Right.f (k + 1) a0) := by
  intro a0 k
  obtain ⟨ih0, ih1, ih2⟩ := waystationref07_Right.mono_l k
  unfold waystationref07_Right.f
  repeat' first
      | (with_reducible exact ih0 _ _)
      | (with_reducible exact ih1 _ _ _ _ _ _)
      | (with_reducible exact ih2 _ _ _ _ _ _)
      | (with_reducible exact LeO.refl _)
      | (with_reducible exact LeO.none _)
      | (with_reducible refine LeO.ite ?_ ?_)
      | (with_reducible refine LeO.bind ?_ (fun _ => ?_))
      | exact ih0 _ _
      | exact ih1 _ _ _ _ _ _
      | exact ih2 _ _ _ _ _ _
      | exact LeO.none _
      | refine LeO.ite ?_ ?_
      | refine LeO.bind ?_ (fun _ => ?_)
set_option maxHeartbeats 8000000 in
set_option maxRecDepth 100000 in
theorem waystationref07_Right.calls (k : Nat) (A0 : Option Addr) (c0 : Nat) (l0 : List (S46)) (r : Bool) (w : World) (hr0 : Kd.C k46 w A0 l0.length l0) (hc0 : l0.length ≤ c0) (h : waystationref07_Right.f k l0 = some r) :
    Calls Try.prog 8 #[.slice A0 l0.length c0] w fun e w' => e = .returned (.bool r) ∧ Below w.heap.size w w' := by
  have hu46 := Try.underlying46
  have HR0 := Aside0.mk hr0
  have HC0 := Aside0.mk hc0
  clear hr0 hc0
  have HB := Aside0.mk (Below.refl w.heap.size w)
  have H : (waystationref07_Right.l0 k l0 0) = some r := h
  clear h
  have H' := Aside0.mk H
  clear H
  go_enter Try.func8, Try.ntmps8
  go_wp2
  repeat (go_quiet (fail); try go_wp2)
  go_loopg [3] k (fun kq v3 w' => ∃ (x3_1 : Int), v3 = .int .i64 x3_1 ∧ Aside0 (waystationref07_Right.l0 kq l0 x3_1 = some r) ∧ Aside0 (kq ≤ k) ∧ Aside0 (Below w.heap.size w w'))
  case atStart => exact ⟨(0), (by first | rfl | (simp; done) | (simp [*]; done)), H', ⟨Nat.le_refl _⟩, ⟨by repeat (first | (with_reducible first | exact HB.out | apply below_alloc | apply pw_below_drewN | apply below_drew1) | exact HB.out)⟩⟩
  case round =>
    clear H'
    obtain ⟨x3_1, rfl, HA, HK1, HB⟩ := hrel
    cases gk with
    | zero => exact absurd HA.out (by simp [waystationref07_Right.l0])
    | succ k1 =>
      have H := HA.out
      clear HA
      simp only [waystationref07_Right.l0] at H
      by_cases c2 : x3_1 < (l0.length : Int)
      · rw [if_pos c2] at H
        have c2b0 : decide (x3_1 < (l0.length : Int)) = true := decide_eq_true c2
        clear c2
        by_cases c3 : 0 ≤ x3_1
        · rw [if_pos c3] at H
          have c3b0 : decide (0 ≤ x3_1) = true := decide_eq_true c3
          clear c3
          replace H := Option.bind_eq_some_iff.mp H
          obtain ⟨t128, A40, H⟩ := H
          replace H : (if t128 = true then (if x3_1 > 0 then (if 0 ≤ (wrap64 (x3_1 - 1)) then (if (wrap64 (x3_1 - 1)) < (l0.length : Int) then (if ((rd_T46 l0 (wrap64 (x3_1 - 1))).f0) < ((rd_T46 l0 x3_1).f0) then (waystationref07_Right.j1 k1 l0 x3_1 (!true) ((rd_T46 l0 x3_1).f0) ((rd_T46 l0 x3_1).f1) ((rd_T46 l0 x3_1).f2)) else (if ((rd_T46 l0 (wrap64 (x3_1 - 1))).f0) = ((rd_T46 l0 x3_1).f0) then (waystationref07_Right.j1 k1 l0 x3_1 (!(decide (((rd_T46 l0 (wrap64 (x3_1 - 1))).f1) < ((rd_T46 l0 x3_1).f1)))) ((rd_T46 l0 x3_1).f0) ((rd_T46 l0 x3_1).f1) ((rd_T46 l0 x3_1).f2)) else (waystationref07_Right.j1 k1 l0 x3_1 (!false) ((rd_T46 l0 x3_1).f0) ((rd_T46 l0 x3_1).f1) ((rd_T46 l0 x3_1).f2)))) else (none)) else (none)) else (waystationref07_Right.j1 k1 l0 x3_1 false ((rd_T46 l0 x3_1).f0) ((rd_T46 l0 x3_1).f1) ((rd_T46 l0 x3_1).f2))) else (some false)) = some r := H
          have A4 := Aside0.mk A40
          clear A40
          by_cases c5 : t128 = true
          · subst c5
            have H1 : (if x3_1 > 0 then (if 0 ≤ (wrap64 (x3_1 - 1)) then (if (wrap64 (x3_1 - 1)) < (l0.length : Int) then (if ((rd_T46 l0 (wrap64 (x3_1 - 1))).f0) < ((rd_T46 l0 x3_1).f0) then (waystationref07_Right.j1 k1 l0 x3_1 (!true) ((rd_T46 l0 x3_1).f0) ((rd_T46 l0 x3_1).f1) ((rd_T46 l0 x3_1).f2)) else (if ((rd_T46 l0 (wrap64 (x3_1 - 1))).f0) = ((rd_T46 l0 x3_1).f0) then (waystationref07_Right.j1 k1 l0 x3_1 (!(decide (((rd_T46 l0 (wrap64 (x3_1 - 1))).f1) < ((rd_T46 l0 x3_1).f1)))) ((rd_T46 l0 x3_1).f0) ((rd_T46 l0 x3_1).f1) ((rd_T46 l0 x3_1).f2)) else (waystationref07_Right.j1 k1 l0 x3_1 (!false) ((rd_T46 l0 x3_1).f0) ((rd_T46 l0 x3_1).f1) ((rd_T46 l0 x3_1).f2)))) else (none)) else (none)) else (waystationref07_Right.j1 k1 l0 x3_1 false ((rd_T46 l0 x3_1).f0) ((rd_T46 l0 x3_1).f1) ((rd_T46 l0 x3_1).f2))) = some r := by rw [if_pos rfl] at H; exact H
            clear H
            have H := H1
            clear H1
            have HC6 := Aside0.mk H
            clear H
            have p126 : 0 ≤ (x3_1 : Int) := of_decide_eq_true (by first | (with_reducible assumption) | assumption)
            have q126 : x3_1 < (l0.length : Int) := of_decide_eq_true (by first | (with_reducible assumption) | assumption)
            obtain ⟨ad126, e126, hx126_0, hx126_1, hx126_2⟩ := at_T46 HR0.out x3_1 p126 q126
            cases e126
            replace hx126_0 := (HB.out.cell (World.block_lt_of_cell? w _ hx126_0)).trans hx126_0
            replace hx126_1 := (HB.out.cell (World.block_lt_of_cell? w _ hx126_1)).trans hx126_1
            replace hx126_2 := (HB.out.cell (World.block_lt_of_cell? w _ hx126_2)).trans hx126_2
            replace p126 := eq_true p126
            replace q126 := eq_true q126
            go_upto_region 7 with (first | ((with_reducible refine gate_dst (N := 4) rfl ?_); refine box_event ?hg (N := 4) ?hd (cs := #[.int .u8 0, .int .i64 0, .bool false]) (t := 46) ?hr ?_; (case hd => rfl); (case hg => rfl); (case hr => first | (go_simp; done) | (go_simp; rfl)); intro gb127 hg w7 hbox hb; have n0_ := Aside0.mk (below_step (by repeat (first | (with_reducible first | exact HB.out | apply below_alloc | apply pw_below_drewN | apply below_drew1) | exact HB.out)) hb); have n1_ := Aside0.mk (hbox); have n2_ := Aside0.mk ((by rw [hg]; exact (below_size (by repeat (first | (with_reducible first | exact HB.out | apply below_alloc | apply pw_below_drewN | apply below_drew1) | exact HB.out))) : w.heap.size ≤ gb127)); have n3_ := Aside0.mk ((by rw [hg]; exact (below_size (by repeat (first | (with_reducible first | exact HB.out | apply below_alloc | apply pw_below_drewN | apply below_drew1) | exact HB.out))) : w.heap.size ≤ gb127)); clear HB; have HB := n0_; have BK127 := n1_; have GW127 := n2_; have GE127 := n3_; clear n0_ n1_ n2_ n3_; clear hb hbox hg; have hcz8_0 : w7.cell? ⟨gb127, 0, none⟩ = some (.int .u8 0) := (blk_cell BK127.out 0).trans rfl; have hcz8_1 : w7.cell? ⟨gb127, 1, none⟩ = some (.int .i64 0) := (blk_cell BK127.out 1).trans rfl; have hcz8_2 : w7.cell? ⟨gb127, 2, none⟩ = some (.bool false) := (blk_cell BK127.out 2).trans rfl; have hfz8_0 := blk_frozen BK127.out 0; have hfz8_1 := blk_frozen BK127.out 1; have hfz8_2 := blk_frozen BK127.out 2) | (go_at_call 17; (with_reducible refine (waystationref07_may.calls ((rd_T46 l0 x3_1).f1) ((rd_T46 l0 x3_1).f0) true _ A4.out).mono ?_); rintro e w' ⟨rfl, ⟨nd, rfl⟩⟩; (try first | exact ⟨rfl, _, World.drewN_drewN _ _ _⟩ | exact ⟨rfl, _, Eq.trans (World.drewN_drewN _ _ _) (congrArg (World.drewN _) (Nat.add_assoc _ _ _))⟩)))
            repeat (go_quiet (first | ((with_reducible refine gate_dst (N := 4) rfl ?_); refine box_event ?hg (N := 4) ?hd (cs := #[.int .u8 0, .int .i64 0, .bool false]) (t := 46) ?hr ?_; (case hd => rfl); (case hg => rfl); (case hr => first | (go_simp; done) | (go_simp; rfl)); intro gb127 hg w7 hbox hb; have n0_ := Aside0.mk (below_step (by repeat (first | (with_reducible first | exact HB.out | apply below_alloc | apply pw_below_drewN | apply below_drew1) | exact HB.out)) hb); have n1_ := Aside0.mk (hbox); have n2_ := Aside0.mk ((by rw [hg]; exact (below_size (by repeat (first | (with_reducible first | exact HB.out | apply below_alloc | apply pw_below_drewN | apply below_drew1) | exact HB.out))) : w.heap.size ≤ gb127)); have n3_ := Aside0.mk ((by rw [hg]; exact (below_size (by repeat (first | (with_reducible first | exact HB.out | apply below_alloc | apply pw_below_drewN | apply below_drew1) | exact HB.out))) : w.heap.size ≤ gb127)); clear HB; have HB := n0_; have BK127 := n1_; have GW127 := n2_; have GE127 := n3_; clear n0_ n1_ n2_ n3_; clear hb hbox hg; have hcz8_0 : w7.cell? ⟨gb127, 0, none⟩ = some (.int .u8 0) := (blk_cell BK127.out 0).trans rfl; have hcz8_1 : w7.cell? ⟨gb127, 1, none⟩ = some (.int .i64 0) := (blk_cell BK127.out 1).trans rfl; have hcz8_2 : w7.cell? ⟨gb127, 2, none⟩ = some (.bool false) := (blk_cell BK127.out 2).trans rfl; have hfz8_0 := blk_frozen BK127.out 0; have hfz8_1 := blk_frozen BK127.out 1; have hfz8_2 := blk_frozen BK127.out 2) | (go_at_call 17; (with_reducible refine (waystationref07_may.calls ((rd_T46 l0 x3_1).f1) ((rd_T46 l0 x3_1).f0) true _ A4.out).mono ?_); rintro e w' ⟨rfl, ⟨nd, rfl⟩⟩; (try first | exact ⟨rfl, _, World.drewN_drewN _ _ _⟩ | exact ⟨rfl, _, Eq.trans (World.drewN_drewN _ _ _) (congrArg (World.drewN _) (Nat.add_assoc _ _ _))⟩))); go_upto_region 7 with (first | ((with_reducible refine gate_dst (N := 4) rfl ?_); refine box_event ?hg (N := 4) ?hd (cs := #[.int .u8 0, .int .i64 0, .bool false]) (t := 46) ?hr ?_; (case hd => rfl); (case hg => rfl); (case hr => first | (go_simp; done) | (go_simp; rfl)); intro gb127 hg w7 hbox hb; have n0_ := Aside0.mk (below_step (by repeat (first | (with_reducible first | exact HB.out | apply below_alloc | apply pw_below_drewN | apply below_drew1) | exact HB.out)) hb); have n1_ := Aside0.mk (hbox); have n2_ := Aside0.mk ((by rw [hg]; exact (below_size (by repeat (first | (with_reducible first | exact HB.out | apply below_alloc | apply pw_below_drewN | apply below_drew1) | exact HB.out))) : w.heap.size ≤ gb127)); have n3_ := Aside0.mk ((by rw [hg]; exact (below_size (by repeat (first | (with_reducible first | exact HB.out | apply below_alloc | apply pw_below_drewN | apply below_drew1) | exact HB.out))) : w.heap.size ≤ gb127)); clear HB; have HB := n0_; have BK127 := n1_; have GW127 := n2_; have GE127 := n3_; clear n0_ n1_ n2_ n3_; clear hb hbox hg; have hcz8_0 : w7.cell? ⟨gb127, 0, none⟩ = some (.int .u8 0) := (blk_cell BK127.out 0).trans rfl; have hcz8_1 : w7.cell? ⟨gb127, 1, none⟩ = some (.int .i64 0) := (blk_cell BK127.out 1).trans rfl; have hcz8_2 : w7.cell? ⟨gb127, 2, none⟩ = some (.bool false) := (blk_cell BK127.out 2).trans rfl; have hfz8_0 := blk_frozen BK127.out 0; have hfz8_1 := blk_frozen BK127.out 1; have hfz8_2 := blk_frozen BK127.out 2) | (go_at_call 17; (with_reducible refine (waystationref07_may.calls ((rd_T46 l0 x3_1).f1) ((rd_T46 l0 x3_1).f0) true _ A4.out).mono ?_); rintro e w' ⟨rfl, ⟨nd, rfl⟩⟩; (try first | exact ⟨rfl, _, World.drewN_drewN _ _ _⟩ | exact ⟨rfl, _, Eq.trans (World.drewN_drewN _ _ _) (congrArg (World.drewN _) (Nat.add_assoc _ _ _))⟩))))
            (try simp only [Act.put, List.setIfInBounds_toArray, List.set_cons_zero, List.set_cons_succ])
            go_cut [57] (fun v57 wc => ∃ (kq : Nat) (x57_5 : Bool), v57 = .bool x57_5 ∧ Aside0 (waystationref07_Right.j1 kq l0 x3_1 x57_5 ((rd_T46 l0 x3_1).f0) ((rd_T46 l0 x3_1).f1) ((rd_T46 l0 x3_1).f2) = some r) ∧ Aside0 (kq ≤ k1) ∧ Aside0 (wc.heap[gb127]? = some (.cells #[.int .u8 ((rd_T46 l0 x3_1).f0), .int .i64 ((rd_T46 l0 x3_1).f1), .bool ((rd_T46 l0 x3_1).f2)] 46 (0, 0))) ∧ Aside0 (Below w.heap.size w wc))
            case first =>
              have H := HC6.out
              clear HC6
              by_cases c9 : x3_1 > 0
              · rw [if_pos c9] at H
                have c9b0 : decide (0 < x3_1) = true := decide_eq_true c9
                clear c9
                (first | rw [c9b0] | (simp only [i64_w, i32_w]; rw [c9b0]) | skip)
                obtain ⟨ji10, hji10⟩ : ∃ j_ : Int, (wrap64 (x3_1 - 1)) = j_ := ⟨_, rfl⟩
                replace H : (if 0 ≤ (ji10) then (if (ji10) < (l0.length : Int) then (if ((rd_T46 l0 (ji10)).f0) < ((rd_T46 l0 x3_1).f0) then (waystationref07_Right.j1 k1 l0 x3_1 (!true) ((rd_T46 l0 x3_1).f0) ((rd_T46 l0 x3_1).f1) ((rd_T46 l0 x3_1).f2)) else (if ((rd_T46 l0 (ji10)).f0) = ((rd_T46 l0 x3_1).f0) then (waystationref07_Right.j1 k1 l0 x3_1 (!(decide (((rd_T46 l0 (ji10)).f1) < ((rd_T46 l0 x3_1).f1)))) ((rd_T46 l0 x3_1).f0) ((rd_T46 l0 x3_1).f1) ((rd_T46 l0 x3_1).f2)) else (waystationref07_Right.j1 k1 l0 x3_1 (!false) ((rd_T46 l0 x3_1).f0) ((rd_T46 l0 x3_1).f1) ((rd_T46 l0 x3_1).f2)))) else (none)) else (none)) = some r := by first | (rw [hji10] at H; exact H) | (simp only [hji10] at H ⊢; exact H)
                have hji10w : (IntKind.i64.wrap (x3_1 - 1)) = ji10 := (i64_w _).trans hji10
                by_cases c11 : 0 ≤ (ji10)
                · rw [if_pos c11] at H
                  have c11b0 : decide (0 ≤ (ji10)) = true := decide_eq_true c11
                  clear c11
                  by_cases c12 : (ji10) < (l0.length : Int)
                  · rw [if_pos c12] at H
                    have c12b0 : decide ((ji10) < (l0.length : Int)) = true := decide_eq_true c12
                    clear c12
                    by_cases c13 : ((rd_T46 l0 (ji10)).f0) < ((rd_T46 l0 x3_1).f0)
                    · rw [if_pos c13] at H
                      have c13b0 : decide (((rd_T46 l0 (ji10)).f0) < ((rd_T46 l0 x3_1).f0)) = true := decide_eq_true c13
                      clear c13
                      have H' := Aside0.mk H
                      clear H
                      have p129 : 0 ≤ ((ji10) : Int) := of_decide_eq_true (by first | (with_reducible assumption) | assumption)
                      have q129 : (ji10) < (l0.length : Int) := of_decide_eq_true (by first | (with_reducible assumption) | assumption)
                      obtain ⟨ad129, e129, hx129_0, hx129_1, hx129_2⟩ := at_T46 HR0.out (ji10) p129 q129
                      obtain rfl : ad126 = ad129 := (by injection e129)
                      have hn129_0 : ad126.block ≠ gb127 := Nat.ne_of_lt (Nat.lt_of_lt_of_le (by have := World.block_lt_of_cell? _ _ hx129_0; first | rwa [add_block] at this | exact this) GW127.out)
                      have hn129_1 : ad126.block ≠ gb127 := Nat.ne_of_lt (Nat.lt_of_lt_of_le (by have := World.block_lt_of_cell? _ _ hx129_0; first | rwa [add_block] at this | exact this) GW127.out)
                      have hn129_2 : ad126.block ≠ gb127 := Nat.ne_of_lt (Nat.lt_of_lt_of_le (by have := World.block_lt_of_cell? _ _ hx129_0; first | rwa [add_block] at this | exact this) GW127.out)
                      replace hx129_0 := (HB.out.cell (World.block_lt_of_cell? w _ hx129_0)).trans hx129_0
                      replace hx129_1 := (HB.out.cell (World.block_lt_of_cell? w _ hx129_1)).trans hx129_1
                      replace hx129_2 := (HB.out.cell (World.block_lt_of_cell? w _ hx129_2)).trans hx129_2
                      replace hx129_0 := (cell_far (p := ⟨gb127, 0, none⟩) (by first | (rw [add_block]; exact hn129_0) | (show (Addr.add _ _).block ≠ _; rw [add_block]; exact hn129_0) | exact hn129_0) (.int .u8 ((rd_T46 l0 x3_1).f0))).trans hx129_0
                      replace hx129_1 := (cell_far (p := ⟨gb127, 0, none⟩) (by first | (rw [add_block]; exact hn129_0) | (show (Addr.add _ _).block ≠ _; rw [add_block]; exact hn129_0) | exact hn129_0) (.int .u8 ((rd_T46 l0 x3_1).f0))).trans hx129_1
                      replace hx129_2 := (cell_far (p := ⟨gb127, 0, none⟩) (by first | (rw [add_block]; exact hn129_0) | (show (Addr.add _ _).block ≠ _; rw [add_block]; exact hn129_0) | exact hn129_0) (.int .u8 ((rd_T46 l0 x3_1).f0))).trans hx129_2
                      replace hx129_0 := (cell_far (p := ⟨gb127, 1, none⟩) (by first | (rw [add_block]; exact hn129_1) | (show (Addr.add _ _).block ≠ _; rw [add_block]; exact hn129_1) | exact hn129_1) (.int .i64 ((rd_T46 l0 x3_1).f1))).trans hx129_0
                      replace hx129_1 := (cell_far (p := ⟨gb127, 1, none⟩) (by first | (rw [add_block]; exact hn129_1) | (show (Addr.add _ _).block ≠ _; rw [add_block]; exact hn129_1) | exact hn129_1) (.int .i64 ((rd_T46 l0 x3_1).f1))).trans hx129_1
                      replace hx129_2 := (cell_far (p := ⟨gb127, 1, none⟩) (by first | (rw [add_block]; exact hn129_1) | (show (Addr.add _ _).block ≠ _; rw [add_block]; exact hn129_1) | exact hn129_1) (.int .i64 ((rd_T46 l0 x3_1).f1))).trans hx129_2
                      replace hx129_0 := (cell_far (p := ⟨gb127, 2, none⟩) (by first | (rw [add_block]; exact hn129_2) | (show (Addr.add _ _).block ≠ _; rw [add_block]; exact hn129_2) | exact hn129_2) (.bool ((rd_T46 l0 x3_1).f2))).trans hx129_0
                      replace hx129_1 := (cell_far (p := ⟨gb127, 2, none⟩) (by first | (rw [add_block]; exact hn129_2) | (show (Addr.add _ _).block ≠ _; rw [add_block]; exact hn129_2) | exact hn129_2) (.bool ((rd_T46 l0 x3_1).f2))).trans hx129_1
                      replace hx129_2 := (cell_far (p := ⟨gb127, 2, none⟩) (by first | (rw [add_block]; exact hn129_2) | (show (Addr.add _ _).block ≠ _; rw [add_block]; exact hn129_2) | exact hn129_2) (.bool ((rd_T46 l0 x3_1).f2))).trans hx129_2
                      (try have hy129_0 := fun (n_ : Nat) => (show (((((w7.drewN n_).setCell ⟨gb127, 0, none⟩ (.int .u8 ((rd_T46 l0 x3_1).f0))).setCell ⟨gb127, 1, none⟩ (.int .i64 ((rd_T46 l0 x3_1).f1))).setCell ⟨gb127, 2, none⟩ (.bool ((rd_T46 l0 x3_1).f2)))).cell? _ = some _ from hx129_0))
                      (try have hy129_1 := fun (n_ : Nat) => (show (((((w7.drewN n_).setCell ⟨gb127, 0, none⟩ (.int .u8 ((rd_T46 l0 x3_1).f0))).setCell ⟨gb127, 1, none⟩ (.int .i64 ((rd_T46 l0 x3_1).f1))).setCell ⟨gb127, 2, none⟩ (.bool ((rd_T46 l0 x3_1).f2)))).cell? _ = some _ from hx129_1))
                      (try have hy129_2 := fun (n_ : Nat) => (show (((((w7.drewN n_).setCell ⟨gb127, 0, none⟩ (.int .u8 ((rd_T46 l0 x3_1).f0))).setCell ⟨gb127, 1, none⟩ (.int .i64 ((rd_T46 l0 x3_1).f1))).setCell ⟨gb127, 2, none⟩ (.bool ((rd_T46 l0 x3_1).f2)))).cell? _ = some _ from hx129_2))
                      clear hn129_0
                      clear hn129_1
                      clear hn129_2
                      replace p129 := eq_true p129
                      replace q129 := eq_true q129
                      have hcz14_0 : w7.cell? ⟨gb127, 0, none⟩ = some (.int .u8 0) := (blk_cell BK127.out 0).trans rfl
                      have hcz14_1 : w7.cell? ⟨gb127, 1, none⟩ = some (.int .i64 0) := (blk_cell BK127.out 1).trans rfl
                      have hcz14_2 : w7.cell? ⟨gb127, 2, none⟩ = some (.bool false) := (blk_cell BK127.out 2).trans rfl
                      have hfz14_0 := blk_frozen BK127.out 0
                      have hfz14_1 := blk_frozen BK127.out 1
                      have hfz14_2 := blk_frozen BK127.out 2
                      go_wp2
                      repeat (go_quiet (fail); try go_wp2)
                      go_meet
                      case rel => exact ⟨_, (!true), (by first | rfl | (simp; done) | (simp [*]; done)), H', ⟨by have := HK1.out; first | omega | exact Nat.le_refl _⟩, ⟨by (with_reducible repeat (first | refine blk_drewN ?_ _ | refine blk_drew ?_ | refine blk_alloc ?_ _)); refine blk_put (cs := #[.int .u8 ((rd_T46 l0 x3_1).f0), .int .i64 ((rd_T46 l0 x3_1).f1), .bool false]) ?_ 2 _ rfl; (with_reducible repeat (first | refine blk_drewN ?_ _ | refine blk_drew ?_ | refine blk_alloc ?_ _)); refine blk_put (cs := #[.int .u8 ((rd_T46 l0 x3_1).f0), .int .i64 0, .bool false]) ?_ 1 _ rfl; (with_reducible repeat (first | refine blk_drewN ?_ _ | refine blk_drew ?_ | refine blk_alloc ?_ _)); refine blk_put (cs := #[.int .u8 0, .int .i64 0, .bool false]) ?_ 0 _ rfl; (with_reducible repeat (first | refine blk_drewN ?_ _ | refine blk_drew ?_ | refine blk_alloc ?_ _)); exact BK127.out⟩, ⟨by repeat (first | (with_reducible first | exact HB.out | apply below_alloc | apply pw_below_drewN | apply below_drew1 | refine below_set ?_ GE127.out) | exact HB.out)⟩⟩
                    · rw [if_neg c13] at H
                      have c13b0 : decide (((rd_T46 l0 (ji10)).f0) < ((rd_T46 l0 x3_1).f0)) = false := decide_eq_false c13
                      clear c13
                      by_cases c15 : ((rd_T46 l0 (ji10)).f0) = ((rd_T46 l0 x3_1).f0)
                      · rw [if_pos c15] at H
                        have c15b0 : (((rd_T46 l0 (ji10)).f0) == ((rd_T46 l0 x3_1).f0)) = true := beq_iff_eq.mpr c15
                        have c15b1 : (((rd_T46 l0 (ji10)).f0) != ((rd_T46 l0 x3_1).f0)) = false := bne_eq_false_iff_eq.mpr c15
                        clear c15
                        have H' := Aside0.mk H
                        clear H
                        have p129 : 0 ≤ ((ji10) : Int) := of_decide_eq_true (by first | (with_reducible assumption) | assumption)
                        have q129 : (ji10) < (l0.length : Int) := of_decide_eq_true (by first | (with_reducible assumption) | assumption)
                        obtain ⟨ad129, e129, hx129_0, hx129_1, hx129_2⟩ := at_T46 HR0.out (ji10) p129 q129
                        obtain rfl : ad126 = ad129 := (by injection e129)
                        have hn129_0 : ad126.block ≠ gb127 := Nat.ne_of_lt (Nat.lt_of_lt_of_le (by have := World.block_lt_of_cell? _ _ hx129_0; first | rwa [add_block] at this | exact this) GW127.out)
                        have hn129_1 : ad126.block ≠ gb127 := Nat.ne_of_lt (Nat.lt_of_lt_of_le (by have := World.block_lt_of_cell? _ _ hx129_0; first | rwa [add_block] at this | exact this) GW127.out)
                        have hn129_2 : ad126.block ≠ gb127 := Nat.ne_of_lt (Nat.lt_of_lt_of_le (by have := World.block_lt_of_cell? _ _ hx129_0; first | rwa [add_block] at this | exact this) GW127.out)
                        replace hx129_0 := (HB.out.cell (World.block_lt_of_cell? w _ hx129_0)).trans hx129_0
                        replace hx129_1 := (HB.out.cell (World.block_lt_of_cell? w _ hx129_1)).trans hx129_1
                        replace hx129_2 := (HB.out.cell (World.block_lt_of_cell? w _ hx129_2)).trans hx129_2
                        replace hx129_0 := (cell_far (p := ⟨gb127, 0, none⟩) (by first | (rw [add_block]; exact hn129_0) | (show (Addr.add _ _).block ≠ _; rw [add_block]; exact hn129_0) | exact hn129_0) (.int .u8 ((rd_T46 l0 x3_1).f0))).trans hx129_0
                        replace hx129_1 := (cell_far (p := ⟨gb127, 0, none⟩) (by first | (rw [add_block]; exact hn129_0) | (show (Addr.add _ _).block ≠ _; rw [add_block]; exact hn129_0) | exact hn129_0) (.int .u8 ((rd_T46 l0 x3_1).f0))).trans hx129_1
                        replace hx129_2 := (cell_far (p := ⟨gb127, 0, none⟩) (by first | (rw [add_block]; exact hn129_0) | (show (Addr.add _ _).block ≠ _; rw [add_block]; exact hn129_0) | exact hn129_0) (.int .u8 ((rd_T46 l0 x3_1).f0))).trans hx129_2
                        replace hx129_0 := (cell_far (p := ⟨gb127, 1, none⟩) (by first | (rw [add_block]; exact hn129_1) | (show (Addr.add _ _).block ≠ _; rw [add_block]; exact hn129_1) | exact hn129_1) (.int .i64 ((rd_T46 l0 x3_1).f1))).trans hx129_0
                        replace hx129_1 := (cell_far (p := ⟨gb127, 1, none⟩) (by first | (rw [add_block]; exact hn129_1) | (show (Addr.add _ _).block ≠ _; rw [add_block]; exact hn129_1) | exact hn129_1) (.int .i64 ((rd_T46 l0 x3_1).f1))).trans hx129_1
                        replace hx129_2 := (cell_far (p := ⟨gb127, 1, none⟩) (by first | (rw [add_block]; exact hn129_1) | (show (Addr.add _ _).block ≠ _; rw [add_block]; exact hn129_1) | exact hn129_1) (.int .i64 ((rd_T46 l0 x3_1).f1))).trans hx129_2
                        replace hx129_0 := (cell_far (p := ⟨gb127, 2, none⟩) (by first | (rw [add_block]; exact hn129_2) | (show (Addr.add _ _).block ≠ _; rw [add_block]; exact hn129_2) | exact hn129_2) (.bool ((rd_T46 l0 x3_1).f2))).trans hx129_0
                        replace hx129_1 := (cell_far (p := ⟨gb127, 2, none⟩) (by first | (rw [add_block]; exact hn129_2) | (show (Addr.add _ _).block ≠ _; rw [add_block]; exact hn129_2) | exact hn129_2) (.bool ((rd_T46 l0 x3_1).f2))).trans hx129_1
                        replace hx129_2 := (cell_far (p := ⟨gb127, 2, none⟩) (by first | (rw [add_block]; exact hn129_2) | (show (Addr.add _ _).block ≠ _; rw [add_block]; exact hn129_2) | exact hn129_2) (.bool ((rd_T46 l0 x3_1).f2))).trans hx129_2
                        (try have hy129_0 := fun (n_ : Nat) => (show (((((w7.drewN n_).setCell ⟨gb127, 0, none⟩ (.int .u8 ((rd_T46 l0 x3_1).f0))).setCell ⟨gb127, 1, none⟩ (.int .i64 ((rd_T46 l0 x3_1).f1))).setCell ⟨gb127, 2, none⟩ (.bool ((rd_T46 l0 x3_1).f2)))).cell? _ = some _ from hx129_0))
                        (try have hy129_1 := fun (n_ : Nat) => (show (((((w7.drewN n_).setCell ⟨gb127, 0, none⟩ (.int .u8 ((rd_T46 l0 x3_1).f0))).setCell ⟨gb127, 1, none⟩ (.int .i64 ((rd_T46 l0 x3_1).f1))).setCell ⟨gb127, 2, none⟩ (.bool ((rd_T46 l0 x3_1).f2)))).cell? _ = some _ from hx129_1))
                        (try have hy129_2 := fun (n_ : Nat) => (show (((((w7.drewN n_).setCell ⟨gb127, 0, none⟩ (.int .u8 ((rd_T46 l0 x3_1).f0))).setCell ⟨gb127, 1, none⟩ (.int .i64 ((rd_T46 l0 x3_1).f1))).setCell ⟨gb127, 2, none⟩ (.bool ((rd_T46 l0 x3_1).f2)))).cell? _ = some _ from hx129_2))
                        clear hn129_0
                        clear hn129_1
                        clear hn129_2
                        replace p129 := eq_true p129
                        replace q129 := eq_true q129
                        have hcz16_0 : w7.cell? ⟨gb127, 0, none⟩ = some (.int .u8 0) := (blk_cell BK127.out 0).trans rfl
                        have hcz16_1 : w7.cell? ⟨gb127, 1, none⟩ = some (.int .i64 0) := (blk_cell BK127.out 1).trans rfl
                        have hcz16_2 : w7.cell? ⟨gb127, 2, none⟩ = some (.bool false) := (blk_cell BK127.out 2).trans rfl
                        have hfz16_0 := blk_frozen BK127.out 0
                        have hfz16_1 := blk_frozen BK127.out 1
                        have hfz16_2 := blk_frozen BK127.out 2
                        have p130 : 0 ≤ ((ji10) : Int) := of_decide_eq_true (by first | (with_reducible assumption) | assumption)
                        have q130 : (ji10) < (l0.length : Int) := of_decide_eq_true (by first | (with_reducible assumption) | assumption)
                        obtain ⟨ad130, e130, hx130_0, hx130_1, hx130_2⟩ := at_T46 HR0.out (ji10) p130 q130
                        obtain rfl : ad126 = ad130 := (by injection e130)
                        have hn130_0 : ad126.block ≠ gb127 := Nat.ne_of_lt (Nat.lt_of_lt_of_le (by have := World.block_lt_of_cell? _ _ hx130_0; first | rwa [add_block] at this | exact this) GW127.out)
                        have hn130_1 : ad126.block ≠ gb127 := Nat.ne_of_lt (Nat.lt_of_lt_of_le (by have := World.block_lt_of_cell? _ _ hx130_0; first | rwa [add_block] at this | exact this) GW127.out)
                        have hn130_2 : ad126.block ≠ gb127 := Nat.ne_of_lt (Nat.lt_of_lt_of_le (by have := World.block_lt_of_cell? _ _ hx130_0; first | rwa [add_block] at this | exact this) GW127.out)
                        replace hx130_0 := (HB.out.cell (World.block_lt_of_cell? w _ hx130_0)).trans hx130_0
                        replace hx130_1 := (HB.out.cell (World.block_lt_of_cell? w _ hx130_1)).trans hx130_1
                        replace hx130_2 := (HB.out.cell (World.block_lt_of_cell? w _ hx130_2)).trans hx130_2
                        replace hx130_0 := (cell_far (p := ⟨gb127, 0, none⟩) (by first | (rw [add_block]; exact hn130_0) | (show (Addr.add _ _).block ≠ _; rw [add_block]; exact hn130_0) | exact hn130_0) (.int .u8 ((rd_T46 l0 x3_1).f0))).trans hx130_0
                        replace hx130_1 := (cell_far (p := ⟨gb127, 0, none⟩) (by first | (rw [add_block]; exact hn130_0) | (show (Addr.add _ _).block ≠ _; rw [add_block]; exact hn130_0) | exact hn130_0) (.int .u8 ((rd_T46 l0 x3_1).f0))).trans hx130_1
                        replace hx130_2 := (cell_far (p := ⟨gb127, 0, none⟩) (by first | (rw [add_block]; exact hn130_0) | (show (Addr.add _ _).block ≠ _; rw [add_block]; exact hn130_0) | exact hn130_0) (.int .u8 ((rd_T46 l0 x3_1).f0))).trans hx130_2
                        replace hx130_0 := (cell_far (p := ⟨gb127, 1, none⟩) (by first | (rw [add_block]; exact hn130_1) | (show (Addr.add _ _).block ≠ _; rw [add_block]; exact hn130_1) | exact hn130_1) (.int .i64 ((rd_T46 l0 x3_1).f1))).trans hx130_0
                        replace hx130_1 := (cell_far (p := ⟨gb127, 1, none⟩) (by first | (rw [add_block]; exact hn130_1) | (show (Addr.add _ _).block ≠ _; rw [add_block]; exact hn130_1) | exact hn130_1) (.int .i64 ((rd_T46 l0 x3_1).f1))).trans hx130_1
                        replace hx130_2 := (cell_far (p := ⟨gb127, 1, none⟩) (by first | (rw [add_block]; exact hn130_1) | (show (Addr.add _ _).block ≠ _; rw [add_block]; exact hn130_1) | exact hn130_1) (.int .i64 ((rd_T46 l0 x3_1).f1))).trans hx130_2
                        replace hx130_0 := (cell_far (p := ⟨gb127, 2, none⟩) (by first | (rw [add_block]; exact hn130_2) | (show (Addr.add _ _).block ≠ _; rw [add_block]; exact hn130_2) | exact hn130_2) (.bool ((rd_T46 l0 x3_1).f2))).trans hx130_0
                        replace hx130_1 := (cell_far (p := ⟨gb127, 2, none⟩) (by first | (rw [add_block]; exact hn130_2) | (show (Addr.add _ _).block ≠ _; rw [add_block]; exact hn130_2) | exact hn130_2) (.bool ((rd_T46 l0 x3_1).f2))).trans hx130_1
                        replace hx130_2 := (cell_far (p := ⟨gb127, 2, none⟩) (by first | (rw [add_block]; exact hn130_2) | (show (Addr.add _ _).block ≠ _; rw [add_block]; exact hn130_2) | exact hn130_2) (.bool ((rd_T46 l0 x3_1).f2))).trans hx130_2
                        (try have hy130_0 := fun (n_ : Nat) => (show (((((w7.drewN n_).setCell ⟨gb127, 0, none⟩ (.int .u8 ((rd_T46 l0 x3_1).f0))).setCell ⟨gb127, 1, none⟩ (.int .i64 ((rd_T46 l0 x3_1).f1))).setCell ⟨gb127, 2, none⟩ (.bool ((rd_T46 l0 x3_1).f2)))).cell? _ = some _ from hx130_0))
                        (try have hy130_1 := fun (n_ : Nat) => (show (((((w7.drewN n_).setCell ⟨gb127, 0, none⟩ (.int .u8 ((rd_T46 l0 x3_1).f0))).setCell ⟨gb127, 1, none⟩ (.int .i64 ((rd_T46 l0 x3_1).f1))).setCell ⟨gb127, 2, none⟩ (.bool ((rd_T46 l0 x3_1).f2)))).cell? _ = some _ from hx130_1))
                        (try have hy130_2 := fun (n_ : Nat) => (show (((((w7.drewN n_).setCell ⟨gb127, 0, none⟩ (.int .u8 ((rd_T46 l0 x3_1).f0))).setCell ⟨gb127, 1, none⟩ (.int .i64 ((rd_T46 l0 x3_1).f1))).setCell ⟨gb127, 2, none⟩ (.bool ((rd_T46 l0 x3_1).f2)))).cell? _ = some _ from hx130_2))
                        clear hn130_0
                        clear hn130_1
                        clear hn130_2
                        replace p130 := eq_true p130
                        replace q130 := eq_true q130
                        have p131 : 0 ≤ ((ji10) : Int) := of_decide_eq_true (by first | (with_reducible assumption) | assumption)
                        have q131 : (ji10) < (l0.length : Int) := of_decide_eq_true (by first | (with_reducible assumption) | assumption)
                        obtain ⟨ad131, e131, hx131_0, hx131_1, hx131_2⟩ := at_T46 HR0.out (ji10) p131 q131
                        obtain rfl : ad126 = ad131 := (by injection e131)
                        have hn131_0 : ad126.block ≠ gb127 := Nat.ne_of_lt (Nat.lt_of_lt_of_le (by have := World.block_lt_of_cell? _ _ hx131_0; first | rwa [add_block] at this | exact this) GW127.out)
                        have hn131_1 : ad126.block ≠ gb127 := Nat.ne_of_lt (Nat.lt_of_lt_of_le (by have := World.block_lt_of_cell? _ _ hx131_0; first | rwa [add_block] at this | exact this) GW127.out)
                        have hn131_2 : ad126.block ≠ gb127 := Nat.ne_of_lt (Nat.lt_of_lt_of_le (by have := World.block_lt_of_cell? _ _ hx131_0; first | rwa [add_block] at this | exact this) GW127.out)
                        replace hx131_0 := (HB.out.cell (World.block_lt_of_cell? w _ hx131_0)).trans hx131_0
                        replace hx131_1 := (HB.out.cell (World.block_lt_of_cell? w _ hx131_1)).trans hx131_1
                        replace hx131_2 := (HB.out.cell (World.block_lt_of_cell? w _ hx131_2)).trans hx131_2
                        replace hx131_0 := (cell_far (p := ⟨gb127, 0, none⟩) (by first | (rw [add_block]; exact hn131_0) | (show (Addr.add _ _).block ≠ _; rw [add_block]; exact hn131_0) | exact hn131_0) (.int .u8 ((rd_T46 l0 x3_1).f0))).trans hx131_0
                        replace hx131_1 := (cell_far (p := ⟨gb127, 0, none⟩) (by first | (rw [add_block]; exact hn131_0) | (show (Addr.add _ _).block ≠ _; rw [add_block]; exact hn131_0) | exact hn131_0) (.int .u8 ((rd_T46 l0 x3_1).f0))).trans hx131_1
                        replace hx131_2 := (cell_far (p := ⟨gb127, 0, none⟩) (by first | (rw [add_block]; exact hn131_0) | (show (Addr.add _ _).block ≠ _; rw [add_block]; exact hn131_0) | exact hn131_0) (.int .u8 ((rd_T46 l0 x3_1).f0))).trans hx131_2
                        replace hx131_0 := (cell_far (p := ⟨gb127, 1, none⟩) (by first | (rw [add_block]; exact hn131_1) | (show (Addr.add _ _).block ≠ _; rw [add_block]; exact hn131_1) | exact hn131_1) (.int .i64 ((rd_T46 l0 x3_1).f1))).trans hx131_0
                        replace hx131_1 := (cell_far (p := ⟨gb127, 1, none⟩) (by first | (rw [add_block]; exact hn131_1) | (show (Addr.add _ _).block ≠ _; rw [add_block]; exact hn131_1) | exact hn131_1) (.int .i64 ((rd_T46 l0 x3_1).f1))).trans hx131_1
                        replace hx131_2 := (cell_far (p := ⟨gb127, 1, none⟩) (by first | (rw [add_block]; exact hn131_1) | (show (Addr.add _ _).block ≠ _; rw [add_block]; exact hn131_1) | exact hn131_1) (.int .i64 ((rd_T46 l0 x3_1).f1))).trans hx131_2
                        replace hx131_0 := (cell_far (p := ⟨gb127, 2, none⟩) (by first | (rw [add_block]; exact hn131_2) | (show (Addr.add _ _).block ≠ _; rw [add_block]; exact hn131_2) | exact hn131_2) (.bool ((rd_T46 l0 x3_1).f2))).trans hx131_0
                        replace hx131_1 := (cell_far (p := ⟨gb127, 2, none⟩) (by first | (rw [add_block]; exact hn131_2) | (show (Addr.add _ _).block ≠ _; rw [add_block]; exact hn131_2) | exact hn131_2) (.bool ((rd_T46 l0 x3_1).f2))).trans hx131_1
                        replace hx131_2 := (cell_far (p := ⟨gb127, 2, none⟩) (by first | (rw [add_block]; exact hn131_2) | (show (Addr.add _ _).block ≠ _; rw [add_block]; exact hn131_2) | exact hn131_2) (.bool ((rd_T46 l0 x3_1).f2))).trans hx131_2
                        (try have hy131_0 := fun (n_ : Nat) => (show (((((w7.drewN n_).setCell ⟨gb127, 0, none⟩ (.int .u8 ((rd_T46 l0 x3_1).f0))).setCell ⟨gb127, 1, none⟩ (.int .i64 ((rd_T46 l0 x3_1).f1))).setCell ⟨gb127, 2, none⟩ (.bool ((rd_T46 l0 x3_1).f2)))).cell? _ = some _ from hx131_0))
                        (try have hy131_1 := fun (n_ : Nat) => (show (((((w7.drewN n_).setCell ⟨gb127, 0, none⟩ (.int .u8 ((rd_T46 l0 x3_1).f0))).setCell ⟨gb127, 1, none⟩ (.int .i64 ((rd_T46 l0 x3_1).f1))).setCell ⟨gb127, 2, none⟩ (.bool ((rd_T46 l0 x3_1).f2)))).cell? _ = some _ from hx131_1))
                        (try have hy131_2 := fun (n_ : Nat) => (show (((((w7.drewN n_).setCell ⟨gb127, 0, none⟩ (.int .u8 ((rd_T46 l0 x3_1).f0))).setCell ⟨gb127, 1, none⟩ (.int .i64 ((rd_T46 l0 x3_1).f1))).setCell ⟨gb127, 2, none⟩ (.bool ((rd_T46 l0 x3_1).f2)))).cell? _ = some _ from hx131_2))
                        clear hn131_0
                        clear hn131_1
                        clear hn131_2
                        replace p131 := eq_true p131
                        replace q131 := eq_true q131
                        go_wp2
                        repeat (go_quiet (fail); try go_wp2)
                        go_meet
                        case rel => exact ⟨_, (!(decide (((rd_T46 l0 (ji10)).f1) < ((rd_T46 l0 x3_1).f1)))), (by first | rfl | (simp; done) | (simp only [← hji10] <;> (first | rfl | simp)) | (simp [*]; done)), H', ⟨by have := HK1.out; first | omega | exact Nat.le_refl _⟩, ⟨by (with_reducible repeat (first | refine blk_drewN ?_ _ | refine blk_drew ?_ | refine blk_alloc ?_ _)); refine blk_put (cs := #[.int .u8 ((rd_T46 l0 x3_1).f0), .int .i64 ((rd_T46 l0 x3_1).f1), .bool false]) ?_ 2 _ rfl; (with_reducible repeat (first | refine blk_drewN ?_ _ | refine blk_drew ?_ | refine blk_alloc ?_ _)); refine blk_put (cs := #[.int .u8 ((rd_T46 l0 x3_1).f0), .int .i64 0, .bool false]) ?_ 1 _ rfl; (with_reducible repeat (first | refine blk_drewN ?_ _ | refine blk_drew ?_ | refine blk_alloc ?_ _)); refine blk_put (cs := #[.int .u8 0, .int .i64 0, .bool false]) ?_ 0 _ rfl; (with_reducible repeat (first | refine blk_drewN ?_ _ | refine blk_drew ?_ | refine blk_alloc ?_ _)); exact BK127.out⟩, ⟨by repeat (first | (with_reducible first | exact HB.out | apply below_alloc | apply pw_below_drewN | apply below_drew1 | refine below_set ?_ GE127.out) | exact HB.out)⟩⟩
                      · rw [if_neg c15] at H
                        have c15b0 : (((rd_T46 l0 (ji10)).f0) == ((rd_T46 l0 x3_1).f0)) = false := beq_eq_false_iff_ne.mpr c15
                        have c15b1 : (((rd_T46 l0 (ji10)).f0) != ((rd_T46 l0 x3_1).f0)) = true := bne_iff_ne.mpr c15
                        have H' := Aside0.mk H
                        clear H
                        have p129 : 0 ≤ ((ji10) : Int) := of_decide_eq_true (by first | (with_reducible assumption) | assumption)
                        have q129 : (ji10) < (l0.length : Int) := of_decide_eq_true (by first | (with_reducible assumption) | assumption)
                        obtain ⟨ad129, e129, hx129_0, hx129_1, hx129_2⟩ := at_T46 HR0.out (ji10) p129 q129
                        obtain rfl : ad126 = ad129 := (by injection e129)
                        have hn129_0 : ad126.block ≠ gb127 := Nat.ne_of_lt (Nat.lt_of_lt_of_le (by have := World.block_lt_of_cell? _ _ hx129_0; first | rwa [add_block] at this | exact this) GW127.out)
                        have hn129_1 : ad126.block ≠ gb127 := Nat.ne_of_lt (Nat.lt_of_lt_of_le (by have := World.block_lt_of_cell? _ _ hx129_0; first | rwa [add_block] at this | exact this) GW127.out)
                        have hn129_2 : ad126.block ≠ gb127 := Nat.ne_of_lt (Nat.lt_of_lt_of_le (by have := World.block_lt_of_cell? _ _ hx129_0; first | rwa [add_block] at this | exact this) GW127.out)
                        replace hx129_0 := (HB.out.cell (World.block_lt_of_cell? w _ hx129_0)).trans hx129_0
                        replace hx129_1 := (HB.out.cell (World.block_lt_of_cell? w _ hx129_1)).trans hx129_1
                        replace hx129_2 := (HB.out.cell (World.block_lt_of_cell? w _ hx129_2)).trans hx129_2
                        replace hx129_0 := (cell_far (p := ⟨gb127, 0, none⟩) (by first | (rw [add_block]; exact hn129_0) | (show (Addr.add _ _).block ≠ _; rw [add_block]; exact hn129_0) | exact hn129_0) (.int .u8 ((rd_T46 l0 x3_1).f0))).trans hx129_0
                        replace hx129_1 := (cell_far (p := ⟨gb127, 0, none⟩) (by first | (rw [add_block]; exact hn129_0) | (show (Addr.add _ _).block ≠ _; rw [add_block]; exact hn129_0) | exact hn129_0) (.int .u8 ((rd_T46 l0 x3_1).f0))).trans hx129_1
                        replace hx129_2 := (cell_far (p := ⟨gb127, 0, none⟩) (by first | (rw [add_block]; exact hn129_0) | (show (Addr.add _ _).block ≠ _; rw [add_block]; exact hn129_0) | exact hn129_0) (.int .u8 ((rd_T46 l0 x3_1).f0))).trans hx129_2
                        replace hx129_0 := (cell_far (p := ⟨gb127, 1, none⟩) (by first | (rw [add_block]; exact hn129_1) | (show (Addr.add _ _).block ≠ _; rw [add_block]; exact hn129_1) | exact hn129_1) (.int .i64 ((rd_T46 l0 x3_1).f1))).trans hx129_0
                        replace hx129_1 := (cell_far (p := ⟨gb127, 1, none⟩) (by first | (rw [add_block]; exact hn129_1) | (show (Addr.add _ _).block ≠ _; rw [add_block]; exact hn129_1) | exact hn129_1) (.int .i64 ((rd_T46 l0 x3_1).f1))).trans hx129_1
                        replace hx129_2 := (cell_far (p := ⟨gb127, 1, none⟩) (by first | (rw [add_block]; exact hn129_1) | (show (Addr.add _ _).block ≠ _; rw [add_block]; exact hn129_1) | exact hn129_1) (.int .i64 ((rd_T46 l0 x3_1).f1))).trans hx129_2
                        replace hx129_0 := (cell_far (p := ⟨gb127, 2, none⟩) (by first | (rw [add_block]; exact hn129_2) | (show (Addr.add _ _).block ≠ _; rw [add_block]; exact hn129_2) | exact hn129_2) (.bool ((rd_T46 l0 x3_1).f2))).trans hx129_0
                        replace hx129_1 := (cell_far (p := ⟨gb127, 2, none⟩) (by first | (rw [add_block]; exact hn129_2) | (show (Addr.add _ _).block ≠ _; rw [add_block]; exact hn129_2) | exact hn129_2) (.bool ((rd_T46 l0 x3_1).f2))).trans hx129_1
                        replace hx129_2 := (cell_far (p := ⟨gb127, 2, none⟩) (by first | (rw [add_block]; exact hn129_2) | (show (Addr.add _ _).block ≠ _; rw [add_block]; exact hn129_2) | exact hn129_2) (.bool ((rd_T46 l0 x3_1).f2))).trans hx129_2
                        (try have hy129_0 := fun (n_ : Nat) => (show (((((w7.drewN n_).setCell ⟨gb127, 0, none⟩ (.int .u8 ((rd_T46 l0 x3_1).f0))).setCell ⟨gb127, 1, none⟩ (.int .i64 ((rd_T46 l0 x3_1).f1))).setCell ⟨gb127, 2, none⟩ (.bool ((rd_T46 l0 x3_1).f2)))).cell? _ = some _ from hx129_0))
                        (try have hy129_1 := fun (n_ : Nat) => (show (((((w7.drewN n_).setCell ⟨gb127, 0, none⟩ (.int .u8 ((rd_T46 l0 x3_1).f0))).setCell ⟨gb127, 1, none⟩ (.int .i64 ((rd_T46 l0 x3_1).f1))).setCell ⟨gb127, 2, none⟩ (.bool ((rd_T46 l0 x3_1).f2)))).cell? _ = some _ from hx129_1))
                        (try have hy129_2 := fun (n_ : Nat) => (show (((((w7.drewN n_).setCell ⟨gb127, 0, none⟩ (.int .u8 ((rd_T46 l0 x3_1).f0))).setCell ⟨gb127, 1, none⟩ (.int .i64 ((rd_T46 l0 x3_1).f1))).setCell ⟨gb127, 2, none⟩ (.bool ((rd_T46 l0 x3_1).f2)))).cell? _ = some _ from hx129_2))
                        clear hn129_0
                        clear hn129_1
                        clear hn129_2
                        replace p129 := eq_true p129
                        replace q129 := eq_true q129
                        have hcz17_0 : w7.cell? ⟨gb127, 0, none⟩ = some (.int .u8 0) := (blk_cell BK127.out 0).trans rfl
                        have hcz17_1 : w7.cell? ⟨gb127, 1, none⟩ = some (.int .i64 0) := (blk_cell BK127.out 1).trans rfl
                        have hcz17_2 : w7.cell? ⟨gb127, 2, none⟩ = some (.bool false) := (blk_cell BK127.out 2).trans rfl
                        have hfz17_0 := blk_frozen BK127.out 0
                        have hfz17_1 := blk_frozen BK127.out 1
                        have hfz17_2 := blk_frozen BK127.out 2
                        have p130 : 0 ≤ ((ji10) : Int) := of_decide_eq_true (by first | (with_reducible assumption) | assumption)
                        have q130 : (ji10) < (l0.length : Int) := of_decide_eq_true (by first | (with_reducible assumption) | assumption)
                        obtain ⟨ad130, e130, hx130_0, hx130_1, hx130_2⟩ := at_T46 HR0.out (ji10) p130 q130
                        obtain rfl : ad126 = ad130 := (by injection e130)
                        have hn130_0 : ad126.block ≠ gb127 := Nat.ne_of_lt (Nat.lt_of_lt_of_le (by have := World.block_lt_of_cell? _ _ hx130_0; first | rwa [add_block] at this | exact this) GW127.out)
                        have hn130_1 : ad126.block ≠ gb127 := Nat.ne_of_lt (Nat.lt_of_lt_of_le (by have := World.block_lt_of_cell? _ _ hx130_0; first | rwa [add_block] at this | exact this) GW127.out)
                        have hn130_2 : ad126.block ≠ gb127 := Nat.ne_of_lt (Nat.lt_of_lt_of_le (by have := World.block_lt_of_cell? _ _ hx130_0; first | rwa [add_block] at this | exact this) GW127.out)
                        replace hx130_0 := (HB.out.cell (World.block_lt_of_cell? w _ hx130_0)).trans hx130_0
                        replace hx130_1 := (HB.out.cell (World.block_lt_of_cell? w _ hx130_1)).trans hx130_1
                        replace hx130_2 := (HB.out.cell (World.block_lt_of_cell? w _ hx130_2)).trans hx130_2
                        replace hx130_0 := (cell_far (p := ⟨gb127, 0, none⟩) (by first | (rw [add_block]; exact hn130_0) | (show (Addr.add _ _).block ≠ _; rw [add_block]; exact hn130_0) | exact hn130_0) (.int .u8 ((rd_T46 l0 x3_1).f0))).trans hx130_0
                        replace hx130_1 := (cell_far (p := ⟨gb127, 0, none⟩) (by first | (rw [add_block]; exact hn130_0) | (show (Addr.add _ _).block ≠ _; rw [add_block]; exact hn130_0) | exact hn130_0) (.int .u8 ((rd_T46 l0 x3_1).f0))).trans hx130_1
                        replace hx130_2 := (cell_far (p := ⟨gb127, 0, none⟩) (by first | (rw [add_block]; exact hn130_0) | (show (Addr.add _ _).block ≠ _; rw [add_block]; exact hn130_0) | exact hn130_0) (.int .u8 ((rd_T46 l0 x3_1).f0))).trans hx130_2
                        replace hx130_0 := (cell_far (p := ⟨gb127, 1, none⟩) (by first | (rw [add_block]; exact hn130_1) | (show (Addr.add _ _).block ≠ _; rw [add_block]; exact hn130_1) | exact hn130_1) (.int .i64 ((rd_T46 l0 x3_1).f1))).trans hx130_0
                        replace hx130_1 := (cell_far (p := ⟨gb127, 1, none⟩) (by first | (rw [add_block]; exact hn130_1) | (show (Addr.add _ _).block ≠ _; rw [add_block]; exact hn130_1) | exact hn130_1) (.int .i64 ((rd_T46 l0 x3_1).f1))).trans hx130_1
                        replace hx130_2 := (cell_far (p := ⟨gb127, 1, none⟩) (by first | (rw [add_block]; exact hn130_1) | (show (Addr.add _ _).block ≠ _; rw [add_block]; exact hn130_1) | exact hn130_1) (.int .i64 ((rd_T46 l0 x3_1).f1))).trans hx130_2
                        replace hx130_0 := (cell_far (p := ⟨gb127, 2, none⟩) (by first | (rw [add_block]; exact hn130_2) | (show (Addr.add _ _).block ≠ _; rw [add_block]; exact hn130_2) | exact hn130_2) (.bool ((rd_T46 l0 x3_1).f2))).trans hx130_0
                        replace hx130_1 := (cell_far (p := ⟨gb127, 2, none⟩) (by first | (rw [add_block]; exact hn130_2) | (show (Addr.add _ _).block ≠ _; rw [add_block]; exact hn130_2) | exact hn130_2) (.bool ((rd_T46 l0 x3_1).f2))).trans hx130_1
                        replace hx130_2 := (cell_far (p := ⟨gb127, 2, none⟩) (by first | (rw [add_block]; exact hn130_2) | (show (Addr.add _ _).block ≠ _; rw [add_block]; exact hn130_2) | exact hn130_2) (.bool ((rd_T46 l0 x3_1).f2))).trans hx130_2
                        (try have hy130_0 := fun (n_ : Nat) => (show (((((w7.drewN n_).setCell ⟨gb127, 0, none⟩ (.int .u8 ((rd_T46 l0 x3_1).f0))).setCell ⟨gb127, 1, none⟩ (.int .i64 ((rd_T46 l0 x3_1).f1))).setCell ⟨gb127, 2, none⟩ (.bool ((rd_T46 l0 x3_1).f2)))).cell? _ = some _ from hx130_0))
                        (try have hy130_1 := fun (n_ : Nat) => (show (((((w7.drewN n_).setCell ⟨gb127, 0, none⟩ (.int .u8 ((rd_T46 l0 x3_1).f0))).setCell ⟨gb127, 1, none⟩ (.int .i64 ((rd_T46 l0 x3_1).f1))).setCell ⟨gb127, 2, none⟩ (.bool ((rd_T46 l0 x3_1).f2)))).cell? _ = some _ from hx130_1))
                        (try have hy130_2 := fun (n_ : Nat) => (show (((((w7.drewN n_).setCell ⟨gb127, 0, none⟩ (.int .u8 ((rd_T46 l0 x3_1).f0))).setCell ⟨gb127, 1, none⟩ (.int .i64 ((rd_T46 l0 x3_1).f1))).setCell ⟨gb127, 2, none⟩ (.bool ((rd_T46 l0 x3_1).f2)))).cell? _ = some _ from hx130_2))
                        clear hn130_0
                        clear hn130_1
                        clear hn130_2
                        replace p130 := eq_true p130
                        replace q130 := eq_true q130
                        go_wp2
                        repeat (go_quiet (fail); try go_wp2)
                        go_meet
                        case rel => exact ⟨_, (!false), (by first | rfl | (simp; done) | (simp [*]; done)), H', ⟨by have := HK1.out; first | omega | exact Nat.le_refl _⟩, ⟨by (with_reducible repeat (first | refine blk_drewN ?_ _ | refine blk_drew ?_ | refine blk_alloc ?_ _)); refine blk_put (cs := #[.int .u8 ((rd_T46 l0 x3_1).f0), .int .i64 ((rd_T46 l0 x3_1).f1), .bool false]) ?_ 2 _ rfl; (with_reducible repeat (first | refine blk_drewN ?_ _ | refine blk_drew ?_ | refine blk_alloc ?_ _)); refine blk_put (cs := #[.int .u8 ((rd_T46 l0 x3_1).f0), .int .i64 0, .bool false]) ?_ 1 _ rfl; (with_reducible repeat (first | refine blk_drewN ?_ _ | refine blk_drew ?_ | refine blk_alloc ?_ _)); refine blk_put (cs := #[.int .u8 0, .int .i64 0, .bool false]) ?_ 0 _ rfl; (with_reducible repeat (first | refine blk_drewN ?_ _ | refine blk_drew ?_ | refine blk_alloc ?_ _)); exact BK127.out⟩, ⟨by repeat (first | (with_reducible first | exact HB.out | apply below_alloc | apply pw_below_drewN | apply below_drew1 | refine below_set ?_ GE127.out) | exact HB.out)⟩⟩
                  · rw [if_neg c12] at H
                    exact absurd H (by simp)
                · rw [if_neg c11] at H
                  exact absurd H (by simp)
              · rw [if_neg c9] at H
                have c9b0 : decide (0 < x3_1) = false := decide_eq_false c9
                clear c9
                (first | rw [c9b0] | (simp only [i64_w, i32_w]; rw [c9b0]) | skip)
                have H' := Aside0.mk H
                clear H
                go_wp2
                repeat (go_quiet (fail); try go_wp2)
                go_meet
                case rel => exact ⟨_, (false), (by first | rfl | (simp; done) | (simp [*]; done)), H', ⟨by have := HK1.out; first | omega | exact Nat.le_refl _⟩, ⟨by (with_reducible repeat (first | refine blk_drewN ?_ _ | refine blk_drew ?_ | refine blk_alloc ?_ _)); refine blk_put (cs := #[.int .u8 ((rd_T46 l0 x3_1).f0), .int .i64 ((rd_T46 l0 x3_1).f1), .bool false]) ?_ 2 _ rfl; (with_reducible repeat (first | refine blk_drewN ?_ _ | refine blk_drew ?_ | refine blk_alloc ?_ _)); refine blk_put (cs := #[.int .u8 ((rd_T46 l0 x3_1).f0), .int .i64 0, .bool false]) ?_ 1 _ rfl; (with_reducible repeat (first | refine blk_drewN ?_ _ | refine blk_drew ?_ | refine blk_alloc ?_ _)); refine blk_put (cs := #[.int .u8 0, .int .i64 0, .bool false]) ?_ 0 _ rfl; (with_reducible repeat (first | refine blk_drewN ?_ _ | refine blk_drew ?_ | refine blk_alloc ?_ _)); exact BK127.out⟩, ⟨by repeat (first | (with_reducible first | exact HB.out | apply below_alloc | apply pw_below_drewN | apply below_drew1 | refine below_set ?_ GE127.out) | exact HB.out)⟩⟩
            case rest =>
              clear HC6
              try clear c1
              try clear p1
              try clear q1
              try clear hx1
              try clear c2
              try clear c2b0
              try clear p2
              try clear c3
              try clear c3b0
              try clear c5
              try clear p6
              try clear c8
              try clear c9
              try clear c9b0
              try clear c11
              try clear c11b0
              try clear c12
              try clear c12b0
              try clear p12
              try clear q12
              try clear hx12
              try clear c13
              try clear c13b0
              try clear p13
              try clear q13
              try clear hx13
              try clear c15
              try clear c15b0
              try clear c15b1
              try clear hcz14_0
              try clear hcz14_1
              try clear hcz14_2
              try clear hcz16_0
              try clear hcz16_1
              try clear hcz16_2
              try clear hcz17_0
              try clear hcz17_1
              try clear hcz17_2
              try clear hcz8_0
              try clear hcz8_1
              try clear hcz8_2
              try clear hfz14_0
              try clear hfz14_1
              try clear hfz14_2
              try clear hfz16_0
              try clear hfz16_1
              try clear hfz16_2
              try clear hfz17_0
              try clear hfz17_1
              try clear hfz17_2
              try clear hfz8_0
              try clear hfz8_1
              try clear hfz8_2
              try clear hx126_0
              try clear hx126_1
              try clear hx126_2
              try clear hx129_0
              try clear hx129_1
              try clear hx129_2
              try clear hx130_0
              try clear hx130_1
              try clear hx130_2
              try clear hx131_0
              try clear hx131_1
              try clear hx131_2
              try clear p126
              try clear p129
              try clear p130
              try clear p131
              try clear q126
              try clear q129
              try clear q130
              try clear q131
              obtain ⟨kq, x57_5, rfl, HA, HJ5, BK127, HB⟩ := hcut
              cases kq with
              | zero => exact absurd HA.out (by simp [waystationref07_Right.j1])
              | succ kj5 =>
                have H := HA.out
                clear HA
                simp only [waystationref07_Right.j1] at H
                by_cases c18 : x57_5 = true
                · subst c18
                  have H1 : (some false) = some r := by rw [if_pos rfl] at H; exact H
                  clear H
                  have H := H1
                  clear H1
                  obtain rfl := Option.some.inj H
                  go_wp2
                  repeat (go_quiet (fail); try go_wp2)
                  go_ret
                  exact ⟨by first | rfl | (simp [errW_none, errW_some] <;> rfl) | (simp [*, errW_none, errW_some] <;> rfl), by repeat (first | (with_reducible first | exact HB.out | apply below_alloc | apply pw_below_drewN | apply below_drew1 | refine below_set ?_ GE127.out) | exact HB.out)⟩
                · replace c18 := Bool.eq_false_iff.mpr c18
                  subst c18
                  have H1 : (waystationref07_Right.l1 kj5 l0 x3_1 0 ((rd_T46 l0 x3_1).f0) ((rd_T46 l0 x3_1).f1) ((rd_T46 l0 x3_1).f2)) = some r := by rw [if_neg (show ¬ (false = true) by decide)] at H; exact H
                  clear H
                  have H := H1
                  clear H1
                  have H' := Aside0.mk H
                  clear H
                  go_wp2
                  repeat (go_quiet (fail); try go_wp2)
                  go_loopg [5] kj5 (fun kq v5 w' => ∃ (x5_3 : Int), v5 = .int .i64 x5_3 ∧ Aside0 (waystationref07_Right.l1 kq l0 x3_1 x5_3 ((rd_T46 l0 x3_1).f0) ((rd_T46 l0 x3_1).f1) ((rd_T46 l0 x3_1).f2) = some r) ∧ Aside0 (kq ≤ kj5) ∧ Aside0 (w'.heap[gb127]? = some (.cells #[.int .u8 ((rd_T46 l0 x3_1).f0), .int .i64 ((rd_T46 l0 x3_1).f1), .bool ((rd_T46 l0 x3_1).f2)] 46 (0, 0))) ∧ Aside0 (Below w.heap.size w w'))
                  case atStart => exact ⟨(0), (by first | rfl | (simp; done) | (simp [*]; done)), H', ⟨Nat.le_refl _⟩, ⟨by (with_reducible repeat (first | refine blk_drewN ?_ _ | refine blk_drew ?_ | refine blk_alloc ?_ _)); exact BK127.out⟩, ⟨by repeat (first | (with_reducible first | exact HB.out | apply below_alloc | apply pw_below_drewN | apply below_drew1 | refine below_set ?_ GE127.out) | exact HB.out)⟩⟩
                  case round =>
                    clear H'
                    try clear c1
                    try clear p1
                    try clear q1
                    try clear hx1
                    try clear c2
                    try clear c2b0
                    try clear p2
                    try clear c3
                    try clear c3b0
                    try clear c5
                    try clear p6
                    try clear c8
                    try clear c9
                    try clear c9b0
                    try clear c11
                    try clear c11b0
                    try clear c12
                    try clear c12b0
                    try clear p12
                    try clear q12
                    try clear hx12
                    try clear c13
                    try clear c13b0
                    try clear p13
                    try clear q13
                    try clear hx13
                    try clear c15
                    try clear c15b0
                    try clear c15b1
                    try clear c18
                    try clear hcz14_0
                    try clear hcz14_1
                    try clear hcz14_2
                    try clear hcz16_0
                    try clear hcz16_1
                    try clear hcz16_2
                    try clear hcz17_0
                    try clear hcz17_1
                    try clear hcz17_2
                    try clear hcz8_0
                    try clear hcz8_1
                    try clear hcz8_2
                    try clear hfz14_0
                    try clear hfz14_1
                    try clear hfz14_2
                    try clear hfz16_0
                    try clear hfz16_1
                    try clear hfz16_2
                    try clear hfz17_0
                    try clear hfz17_1
                    try clear hfz17_2
                    try clear hfz8_0
                    try clear hfz8_1
                    try clear hfz8_2
                    try clear hx126_0
                    try clear hx126_1
                    try clear hx126_2
                    try clear hx129_0
                    try clear hx129_1
                    try clear hx129_2
                    try clear hx130_0
                    try clear hx130_1
                    try clear hx130_2
                    try clear hx131_0
                    try clear hx131_1
                    try clear hx131_2
                    try clear p1
                    try clear p12
                    try clear p126
                    try clear p129
                    try clear p13
                    try clear p130
                    try clear p131
                    try clear p2
                    try clear p6
                    try clear q1
                    try clear q12
                    try clear q126
                    try clear q129
                    try clear q13
                    try clear q130
                    try clear q131
                    obtain ⟨x5_3, rfl, HA, HK3, BK127, HB⟩ := hrel
                    cases gk with
                    | zero => exact absurd HA.out (by simp [waystationref07_Right.l1])
                    | succ k3 =>
                      have H := HA.out
                      clear HA
                      simp only [waystationref07_Right.l1] at H
                      by_cases c19 : x5_3 < (l0.length : Int)
                      · rw [if_pos c19] at H
                        have c19b0 : decide (x5_3 < (l0.length : Int)) = true := decide_eq_true c19
                        clear c19
                        by_cases c20 : x5_3 = x3_1
                        · rw [if_pos c20] at H
                          have c20b0 : (x5_3 == x3_1) = true := beq_iff_eq.mpr c20
                          have c20b1 : (x5_3 != x3_1) = false := bne_eq_false_iff_eq.mpr c20
                          clear c20
                          have H' := Aside0.mk H
                          clear H
                          go_wp2
                          repeat (go_quiet (fail); try go_wp2)
                          go_roundg k3
                          case measure => have := HK1.out; have := HJ5.out; have := HK3.out; omega
                          case rel => exact ⟨(wrap64 (x5_3 + 1)), (by first | rfl | (simp; done) | (simp [*]; done)), H', ⟨by have := HK1.out; have := HJ5.out; have := HK3.out; omega⟩, ⟨by (with_reducible repeat (first | refine blk_drewN ?_ _ | refine blk_drew ?_ | refine blk_alloc ?_ _)); exact BK127.out⟩, ⟨by repeat (first | (with_reducible first | exact HB.out | apply below_alloc | apply pw_below_drewN | apply below_drew1 | refine below_set ?_ GE127.out) | exact HB.out)⟩⟩
                        · rw [if_neg c20] at H
                          have c20b0 : (x5_3 == x3_1) = false := beq_eq_false_iff_ne.mpr c20
                          have c20b1 : (x5_3 != x3_1) = true := bne_iff_ne.mpr c20
                          by_cases c21 : 0 ≤ x5_3
                          · rw [if_pos c21] at H
                            have c21b0 : decide (0 ≤ x5_3) = true := decide_eq_true c21
                            clear c21
                            by_cases c22 : ((rd_T46 l0 x5_3).f0) = ((rd_T46 l0 x3_1).f0)
                            · rw [if_pos c22] at H
                              have c22b0 : (((rd_T46 l0 x5_3).f0) == ((rd_T46 l0 x3_1).f0)) = true := beq_iff_eq.mpr c22
                              have c22b1 : (((rd_T46 l0 x5_3).f0) != ((rd_T46 l0 x3_1).f0)) = false := bne_eq_false_iff_eq.mpr c22
                              clear c22
                              by_cases c23 : ((rd_T46 l0 x3_1).f2) = true
                              · rw [if_pos c23] at H
                                have c23b0 : ((rd_T46 l0 x3_1).f2) = true := c23
                                clear c23
                                obtain rfl := Option.some.inj H
                                have p132 : 0 ≤ (x5_3 : Int) := of_decide_eq_true (by first | (with_reducible assumption) | assumption)
                                have q132 : x5_3 < (l0.length : Int) := of_decide_eq_true (by first | (with_reducible assumption) | assumption)
                                obtain ⟨ad132, e132, hx132_0, hx132_1, hx132_2⟩ := at_T46 HR0.out x5_3 p132 q132
                                obtain rfl : ad126 = ad132 := (by injection e132)
                                replace hx132_0 := (HB.out.cell (World.block_lt_of_cell? w _ hx132_0)).trans hx132_0
                                replace hx132_1 := (HB.out.cell (World.block_lt_of_cell? w _ hx132_1)).trans hx132_1
                                replace hx132_2 := (HB.out.cell (World.block_lt_of_cell? w _ hx132_2)).trans hx132_2
                                replace p132 := eq_true p132
                                replace q132 := eq_true q132
                                have hcz24_0 : wr.cell? ⟨gb127, 0, none⟩ = some (.int .u8 ((rd_T46 l0 x3_1).f0)) := (blk_cell BK127.out 0).trans rfl
                                have hcz24_1 : wr.cell? ⟨gb127, 1, none⟩ = some (.int .i64 ((rd_T46 l0 x3_1).f1)) := (blk_cell BK127.out 1).trans rfl
                                have hcz24_2 : wr.cell? ⟨gb127, 2, none⟩ = some (.bool ((rd_T46 l0 x3_1).f2)) := (blk_cell BK127.out 2).trans rfl
                                have hfz24_0 := blk_frozen BK127.out 0
                                have hfz24_1 := blk_frozen BK127.out 1
                                have hfz24_2 := blk_frozen BK127.out 2
                                go_wp2
                                repeat (go_quiet (fail); try go_wp2)
                                go_ret
                                exact ⟨by first | rfl | (simp [errW_none, errW_some] <;> rfl) | (simp [*, errW_none, errW_some] <;> rfl), by repeat (first | (with_reducible first | exact HB.out | apply below_alloc | apply pw_below_drewN | apply below_drew1 | refine below_set ?_ GE127.out) | exact HB.out)⟩
                              · rw [if_neg c23] at H
                                have c23b0 : ((rd_T46 l0 x3_1).f2) = false := by simpa using c23
                                clear c23
                                have H' := Aside0.mk H
                                clear H
                                have p132 : 0 ≤ (x5_3 : Int) := of_decide_eq_true (by first | (with_reducible assumption) | assumption)
                                have q132 : x5_3 < (l0.length : Int) := of_decide_eq_true (by first | (with_reducible assumption) | assumption)
                                obtain ⟨ad132, e132, hx132_0, hx132_1, hx132_2⟩ := at_T46 HR0.out x5_3 p132 q132
                                obtain rfl : ad126 = ad132 := (by injection e132)
                                replace hx132_0 := (HB.out.cell (World.block_lt_of_cell? w _ hx132_0)).trans hx132_0
                                replace hx132_1 := (HB.out.cell (World.block_lt_of_cell? w _ hx132_1)).trans hx132_1
                                replace hx132_2 := (HB.out.cell (World.block_lt_of_cell? w _ hx132_2)).trans hx132_2
                                replace p132 := eq_true p132
                                replace q132 := eq_true q132
                                have hcz25_0 : wr.cell? ⟨gb127, 0, none⟩ = some (.int .u8 ((rd_T46 l0 x3_1).f0)) := (blk_cell BK127.out 0).trans rfl
                                have hcz25_1 : wr.cell? ⟨gb127, 1, none⟩ = some (.int .i64 ((rd_T46 l0 x3_1).f1)) := (blk_cell BK127.out 1).trans rfl
                                have hcz25_2 : wr.cell? ⟨gb127, 2, none⟩ = some (.bool ((rd_T46 l0 x3_1).f2)) := (blk_cell BK127.out 2).trans rfl
                                have hfz25_0 := blk_frozen BK127.out 0
                                have hfz25_1 := blk_frozen BK127.out 1
                                have hfz25_2 := blk_frozen BK127.out 2
                                go_wp2
                                repeat (go_quiet (fail); try go_wp2)
                                go_roundg k3
                                case measure => have := HK1.out; have := HJ5.out; have := HK3.out; omega
                                case rel => exact ⟨(wrap64 (x5_3 + 1)), (by first | rfl | (simp; done) | (simp [*]; done)), H', ⟨by have := HK1.out; have := HJ5.out; have := HK3.out; omega⟩, ⟨by (with_reducible repeat (first | refine blk_drewN ?_ _ | refine blk_drew ?_ | refine blk_alloc ?_ _)); exact BK127.out⟩, ⟨by repeat (first | (with_reducible first | exact HB.out | apply below_alloc | apply pw_below_drewN | apply below_drew1 | refine below_set ?_ GE127.out) | exact HB.out)⟩⟩
                            · rw [if_neg c22] at H
                              have c22b0 : (((rd_T46 l0 x5_3).f0) == ((rd_T46 l0 x3_1).f0)) = false := beq_eq_false_iff_ne.mpr c22
                              have c22b1 : (((rd_T46 l0 x5_3).f0) != ((rd_T46 l0 x3_1).f0)) = true := bne_iff_ne.mpr c22
                              have H' := Aside0.mk H
                              clear H
                              have p132 : 0 ≤ (x5_3 : Int) := of_decide_eq_true (by first | (with_reducible assumption) | assumption)
                              have q132 : x5_3 < (l0.length : Int) := of_decide_eq_true (by first | (with_reducible assumption) | assumption)
                              obtain ⟨ad132, e132, hx132_0, hx132_1, hx132_2⟩ := at_T46 HR0.out x5_3 p132 q132
                              obtain rfl : ad126 = ad132 := (by injection e132)
                              replace hx132_0 := (HB.out.cell (World.block_lt_of_cell? w _ hx132_0)).trans hx132_0
                              replace hx132_1 := (HB.out.cell (World.block_lt_of_cell? w _ hx132_1)).trans hx132_1
                              replace hx132_2 := (HB.out.cell (World.block_lt_of_cell? w _ hx132_2)).trans hx132_2
                              replace p132 := eq_true p132
                              replace q132 := eq_true q132
                              have hcz26_0 : wr.cell? ⟨gb127, 0, none⟩ = some (.int .u8 ((rd_T46 l0 x3_1).f0)) := (blk_cell BK127.out 0).trans rfl
                              have hcz26_1 : wr.cell? ⟨gb127, 1, none⟩ = some (.int .i64 ((rd_T46 l0 x3_1).f1)) := (blk_cell BK127.out 1).trans rfl
                              have hcz26_2 : wr.cell? ⟨gb127, 2, none⟩ = some (.bool ((rd_T46 l0 x3_1).f2)) := (blk_cell BK127.out 2).trans rfl
                              have hfz26_0 := blk_frozen BK127.out 0
                              have hfz26_1 := blk_frozen BK127.out 1
                              have hfz26_2 := blk_frozen BK127.out 2
                              go_wp2
                              repeat (go_quiet (fail); try go_wp2)
                              go_roundg k3
                              case measure => have := HK1.out; have := HJ5.out; have := HK3.out; omega
                              case rel => exact ⟨(wrap64 (x5_3 + 1)), (by first | rfl | (simp; done) | (simp [*]; done)), H', ⟨by have := HK1.out; have := HJ5.out; have := HK3.out; omega⟩, ⟨by (with_reducible repeat (first | refine blk_drewN ?_ _ | refine blk_drew ?_ | refine blk_alloc ?_ _)); exact BK127.out⟩, ⟨by repeat (first | (with_reducible first | exact HB.out | apply below_alloc | apply pw_below_drewN | apply below_drew1 | refine below_set ?_ GE127.out) | exact HB.out)⟩⟩
                          · rw [if_neg c21] at H
                            exact absurd H (by simp)
                      · rw [if_neg c19] at H
                        have c19b0 : decide (x5_3 < (l0.length : Int)) = false := decide_eq_false c19
                        clear c19
                        have H' := Aside0.mk H
                        clear H
                        go_wp2
                        repeat (go_quiet (fail); try go_wp2)
                        go_roundg k3
                        case measure => have := HK1.out; have := HJ5.out; have := HK3.out; omega
                        case rel => exact ⟨(wrap64 (x3_1 + 1)), (by first | rfl | (simp; done) | (simp [*]; done)), H', ⟨by have := HK1.out; have := HJ5.out; have := HK3.out; omega⟩, ⟨by repeat (first | (with_reducible first | exact HB.out | apply below_alloc | apply pw_below_drewN | apply below_drew1 | refine below_set ?_ GE127.out) | exact HB.out)⟩⟩
          · replace c5 := Bool.eq_false_iff.mpr c5
            subst c5
            have H1 : (some false) = some r := by rw [if_neg (show ¬ (false = true) by decide)] at H; exact H
            clear H
            have H := H1
            clear H1
            obtain rfl := Option.some.inj H
            have p126 : 0 ≤ (x3_1 : Int) := of_decide_eq_true (by first | (with_reducible assumption) | assumption)
            have q126 : x3_1 < (l0.length : Int) := of_decide_eq_true (by first | (with_reducible assumption) | assumption)
            obtain ⟨ad126, e126, hx126_0, hx126_1, hx126_2⟩ := at_T46 HR0.out x3_1 p126 q126
            cases e126
            replace hx126_0 := (HB.out.cell (World.block_lt_of_cell? w _ hx126_0)).trans hx126_0
            replace hx126_1 := (HB.out.cell (World.block_lt_of_cell? w _ hx126_1)).trans hx126_1
            replace hx126_2 := (HB.out.cell (World.block_lt_of_cell? w _ hx126_2)).trans hx126_2
            replace p126 := eq_true p126
            replace q126 := eq_true q126
            go_wp2_with (first | ((with_reducible refine gate_dst (N := 4) rfl ?_); refine box_event ?hg (N := 4) ?hd (cs := #[.int .u8 0, .int .i64 0, .bool false]) (t := 46) ?hr ?_; (case hd => rfl); (case hg => rfl); (case hr => first | (go_simp; done) | (go_simp; rfl)); intro gb127 hg w27 hbox hb; have n0_ := Aside0.mk (below_step (by repeat (first | (with_reducible first | exact HB.out | apply below_alloc | apply pw_below_drewN | apply below_drew1) | exact HB.out)) hb); have n1_ := Aside0.mk (hbox); have n2_ := Aside0.mk ((by rw [hg]; exact (below_size (by repeat (first | (with_reducible first | exact HB.out | apply below_alloc | apply pw_below_drewN | apply below_drew1) | exact HB.out))) : w.heap.size ≤ gb127)); have n3_ := Aside0.mk ((by rw [hg]; exact (below_size (by repeat (first | (with_reducible first | exact HB.out | apply below_alloc | apply pw_below_drewN | apply below_drew1) | exact HB.out))) : w.heap.size ≤ gb127)); clear HB; have HB := n0_; have BK127 := n1_; have GW127 := n2_; have GE127 := n3_; clear n0_ n1_ n2_ n3_; clear hb hbox hg; have hcz28_0 : w27.cell? ⟨gb127, 0, none⟩ = some (.int .u8 0) := (blk_cell BK127.out 0).trans rfl; have hcz28_1 : w27.cell? ⟨gb127, 1, none⟩ = some (.int .i64 0) := (blk_cell BK127.out 1).trans rfl; have hcz28_2 : w27.cell? ⟨gb127, 2, none⟩ = some (.bool false) := (blk_cell BK127.out 2).trans rfl; have hfz28_0 := blk_frozen BK127.out 0; have hfz28_1 := blk_frozen BK127.out 1; have hfz28_2 := blk_frozen BK127.out 2) | (go_at_call 17; (with_reducible refine (waystationref07_may.calls ((rd_T46 l0 x3_1).f1) ((rd_T46 l0 x3_1).f0) false _ A4.out).mono ?_); rintro e w' ⟨rfl, ⟨nd, rfl⟩⟩; (try first | exact ⟨rfl, _, World.drewN_drewN _ _ _⟩ | exact ⟨rfl, _, Eq.trans (World.drewN_drewN _ _ _) (congrArg (World.drewN _) (Nat.add_assoc _ _ _))⟩)))
            repeat (go_quiet (first | ((with_reducible refine gate_dst (N := 4) rfl ?_); refine box_event ?hg (N := 4) ?hd (cs := #[.int .u8 0, .int .i64 0, .bool false]) (t := 46) ?hr ?_; (case hd => rfl); (case hg => rfl); (case hr => first | (go_simp; done) | (go_simp; rfl)); intro gb127 hg w27 hbox hb; have n0_ := Aside0.mk (below_step (by repeat (first | (with_reducible first | exact HB.out | apply below_alloc | apply pw_below_drewN | apply below_drew1) | exact HB.out)) hb); have n1_ := Aside0.mk (hbox); have n2_ := Aside0.mk ((by rw [hg]; exact (below_size (by repeat (first | (with_reducible first | exact HB.out | apply below_alloc | apply pw_below_drewN | apply below_drew1) | exact HB.out))) : w.heap.size ≤ gb127)); have n3_ := Aside0.mk ((by rw [hg]; exact (below_size (by repeat (first | (with_reducible first | exact HB.out | apply below_alloc | apply pw_below_drewN | apply below_drew1) | exact HB.out))) : w.heap.size ≤ gb127)); clear HB; have HB := n0_; have BK127 := n1_; have GW127 := n2_; have GE127 := n3_; clear n0_ n1_ n2_ n3_; clear hb hbox hg; have hcz28_0 : w27.cell? ⟨gb127, 0, none⟩ = some (.int .u8 0) := (blk_cell BK127.out 0).trans rfl; have hcz28_1 : w27.cell? ⟨gb127, 1, none⟩ = some (.int .i64 0) := (blk_cell BK127.out 1).trans rfl; have hcz28_2 : w27.cell? ⟨gb127, 2, none⟩ = some (.bool false) := (blk_cell BK127.out 2).trans rfl; have hfz28_0 := blk_frozen BK127.out 0; have hfz28_1 := blk_frozen BK127.out 1; have hfz28_2 := blk_frozen BK127.out 2) | (go_at_call 17; (with_reducible refine (waystationref07_may.calls ((rd_T46 l0 x3_1).f1) ((rd_T46 l0 x3_1).f0) false _ A4.out).mono ?_); rintro e w' ⟨rfl, ⟨nd, rfl⟩⟩; (try first | exact ⟨rfl, _, World.drewN_drewN _ _ _⟩ | exact ⟨rfl, _, Eq.trans (World.drewN_drewN _ _ _) (congrArg (World.drewN _) (Nat.add_assoc _ _ _))⟩))); try go_wp2_with (first | ((with_reducible refine gate_dst (N := 4) rfl ?_); refine box_event ?hg (N := 4) ?hd (cs := #[.int .u8 0, .int .i64 0, .bool false]) (t := 46) ?hr ?_; (case hd => rfl); (case hg => rfl); (case hr => first | (go_simp; done) | (go_simp; rfl)); intro gb127 hg w27 hbox hb; have n0_ := Aside0.mk (below_step (by repeat (first | (with_reducible first | exact HB.out | apply below_alloc | apply pw_below_drewN | apply below_drew1) | exact HB.out)) hb); have n1_ := Aside0.mk (hbox); have n2_ := Aside0.mk ((by rw [hg]; exact (below_size (by repeat (first | (with_reducible first | exact HB.out | apply below_alloc | apply pw_below_drewN | apply below_drew1) | exact HB.out))) : w.heap.size ≤ gb127)); have n3_ := Aside0.mk ((by rw [hg]; exact (below_size (by repeat (first | (with_reducible first | exact HB.out | apply below_alloc | apply pw_below_drewN | apply below_drew1) | exact HB.out))) : w.heap.size ≤ gb127)); clear HB; have HB := n0_; have BK127 := n1_; have GW127 := n2_; have GE127 := n3_; clear n0_ n1_ n2_ n3_; clear hb hbox hg; have hcz28_0 : w27.cell? ⟨gb127, 0, none⟩ = some (.int .u8 0) := (blk_cell BK127.out 0).trans rfl; have hcz28_1 : w27.cell? ⟨gb127, 1, none⟩ = some (.int .i64 0) := (blk_cell BK127.out 1).trans rfl; have hcz28_2 : w27.cell? ⟨gb127, 2, none⟩ = some (.bool false) := (blk_cell BK127.out 2).trans rfl; have hfz28_0 := blk_frozen BK127.out 0; have hfz28_1 := blk_frozen BK127.out 1; have hfz28_2 := blk_frozen BK127.out 2) | (go_at_call 17; (with_reducible refine (waystationref07_may.calls ((rd_T46 l0 x3_1).f1) ((rd_T46 l0 x3_1).f0) false _ A4.out).mono ?_); rintro e w' ⟨rfl, ⟨nd, rfl⟩⟩; (try first | exact ⟨rfl, _, World.drewN_drewN _ _ _⟩ | exact ⟨rfl, _, Eq.trans (World.drewN_drewN _ _ _) (congrArg (World.drewN _) (Nat.add_assoc _ _ _))⟩))))
            go_ret
            exact ⟨by first | rfl | (simp [errW_none, errW_some] <;> rfl) | (simp [*, errW_none, errW_some] <;> rfl), by repeat (first | (with_reducible first | exact HB.out | apply below_alloc | apply pw_below_drewN | apply below_drew1 | refine below_set ?_ GE127.out) | exact HB.out)⟩
        · rw [if_neg c3] at H
          exact absurd H (by simp)
      · rw [if_neg c2] at H
        have c2b0 : decide (x3_1 < (l0.length : Int)) = false := decide_eq_false c2
        clear c2
        obtain rfl := Option.some.inj H
        go_wp2
        repeat (go_quiet (fail); try go_wp2)
        go_ret
        exact ⟨by first | rfl | (simp [errW_none, errW_some] <;> rfl) | (simp [*, errW_none, errW_some] <;> rfl), by repeat (first | (with_reducible first | exact HB.out | apply below_alloc | apply pw_below_drewN | apply below_drew1) | exact HB.out)⟩

/-! ### waystationlaw07_theirs: function 10 -/
def waystationlaw07_theirs.l0 : Nat → List (S45) → List (S46) → Int → Int → Option ((List (S45)))
  | 0, _, _, _, _ => none
  | k + 1, x3, x6, x7, x8 => if x8 < x7 then (if 0 ≤ x8 then (if x8 < (x6.length : Int) then (if x3.length < 5864062014805 then (waystationlaw07_theirs.l0 k (x3 ++ [(⟨(rd_T46 x6 x8).f0, (rd_T46 x6 x8).f1, (rd_T46 x6 x8).f2⟩ : S45)]) x6 x7 (wrap64 (x8 + 1))) else (none)) else (none)) else (none)) else (some x3)
def waystationlaw07_theirs.f (k : Nat) (l0 : List (S46)) : Option ((List (S45))) := waystationlaw07_theirs.l0 k ([] : List (S45)) l0 (l0.length : Int) 0
theorem waystationlaw07_theirs.mono_l : ∀ k, (∀ y0 y1 y2 y3, LeO (waystationlaw07_theirs.l0 k y0 y1 y2 y3) (waystationlaw07_theirs.l0 (k + 1) y0 y1 y2 y3))
  | 0 => fun _ _ _ _ r h => by simp [waystationlaw07_theirs.l0] at h
  | k + 1 => by
    have ih0 := waystationlaw07_theirs.mono_l k
    · intro y0 y1 y2 y3
      unfold waystationlaw07_theirs.l0
      repeat' first
      | (with_reducible exact ih0 _ _ _ _)
      | (with_reducible exact LeO.refl _)
      | (with_reducible exact LeO.none _)
      | (with_reducible refine LeO.ite ?_ ?_)
      | (with_reducible refine LeO.bind ?_ (fun _ => ?_))
      | exact ih0 _ _ _ _
      | exact LeO.none _
      | refine LeO.ite ?_ ?_
      | refine LeO.bind ?_ (fun _ => ?_)
theorem waystationlaw07_theirs.mono : ∀ a0 k, LeO (waystationlaw07_theirs.f k a0) (waystationlaw07_theirs.f (k + 1) a0) := by
  intro a0 k
  have ih0 := waystationlaw07_theirs.mono_l k
  unfold waystationlaw07_theirs.f
  repeat' first
      | (with_reducible exact ih0 _ _ _ _)
      | (with_reducible exact LeO.refl _)
      | (with_reducible exact LeO.none _)
      | (with_reducible refine LeO.ite ?_ ?_)
      | (with_reducible refine LeO.bind ?_ (fun _ => ?_))
      | exact ih0 _ _ _ _
      | exact LeO.none _
      | refine LeO.ite ?_ ?_
      | refine LeO.bind ?_ (fun _ => ?_)
set_option maxHeartbeats 8000000 in
set_option maxRecDepth 100000 in
theorem waystationlaw07_theirs.calls (k : Nat) (A0 : Option Addr) (c0 : Nat) (l0 : List (S46)) (r : List (S45)) (w : World) (hr0 : Kd.C k46 w A0 l0.length l0) (hc0 : l0.length ≤ c0) (h : waystationlaw07_theirs.f k l0 = some r) :
    Calls Try.prog 10 #[.slice A0 l0.length c0] w fun e w' => ∃ v0_ : Value, e = .returned (v0_) ∧ Kd.R k45 45 w' w.heap.size (fun _ => True) v0_ r ∧ Below w.heap.size w w' := by
  have hu46 := Try.underlying46
  have HR0 := Aside0.mk hr0
  have HC0 := Aside0.mk hc0
  clear hr0 hc0
  have HB := Aside0.mk (Below.refl w.heap.size w)
  have H : (waystationlaw07_theirs.l0 k ([] : List (S45)) l0 (l0.length : Int) 0) = some r := h
  clear h
  have H' := Aside0.mk H
  clear H
  go_enter Try.func10, Try.ntmps10
  go_wp2
  go_loopg [3, 8] k (fun kq v3 v8 w' => ∃ (x3_1 : List (S45)) (x8_1 : Int), v8 = .int .i64 x8_1 ∧ Aside0 (waystationlaw07_theirs.l0 kq x3_1 l0 (l0.length : Int) x8_1 = some r) ∧ Aside0 (kq ≤ k) ∧ Aside0 (Kd.R k45 45 w' w.heap.size (fun _ => True) v3 x3_1) ∧ Aside0 (Below w.heap.size w w'))
  case atStart => exact ⟨(([] : List (S45))), (0), (by first | rfl | (simp; done) | (simp [*]; done)), H', ⟨Nat.le_refl _⟩, ⟨by first | exact Kd.R_nil _ _ _ _ _ | exact Kd.N_nil _ _ _ _ _ | exact Kd.V_nil _ _ _ _ _ | exact Kd.Q_nil _ _ _ _ _ | exact Kd.S_nil _ _ _ _ _⟩, ⟨by repeat (first | (with_reducible first | exact HB.out | apply below_alloc | apply pw_below_drewN | apply below_drew1) | exact HB.out)⟩⟩
  case round =>
    clear H'
    try clear c1
    obtain ⟨x3_1, x8_1, rfl, HA, HK1, HO_3, HB⟩ := hrel
    cases gk with
    | zero => exact absurd HA.out (by simp [waystationlaw07_theirs.l0])
    | succ k1 =>
      have H := HA.out
      clear HA
      simp only [waystationlaw07_theirs.l0] at H
      by_cases c2 : x8_1 < (l0.length : Int)
      · rw [if_pos c2] at H
        have c2b0 : decide (x8_1 < (l0.length : Int)) = true := decide_eq_true c2
        clear c2
        by_cases c3 : 0 ≤ x8_1
        · rw [if_pos c3] at H
          have c3b0 : decide (0 ≤ x8_1) = true := decide_eq_true c3
          clear c3
          by_cases c4 : x8_1 < (l0.length : Int)
          · rw [if_pos c4] at H
            have c4b0 : decide (x8_1 < (l0.length : Int)) = true := decide_eq_true c4
            clear c4
            by_cases c5 : x3_1.length < 5864062014805
            · rw [if_pos c5] at H
              have LMc5 := Aside0.mk c5
              clear c5
              obtain ⟨y135, hy135⟩ : ∃ y_ : List (S45), y_ = (x3_1 ++ [(⟨(rd_T46 l0 x8_1).f0, (rd_T46 l0 x8_1).f1, (rd_T46 l0 x8_1).f2⟩ : S45)]) := ⟨_, rfl⟩
              replace H : (waystationlaw07_theirs.l0 k1 y135 l0 (l0.length : Int) (wrap64 (x8_1 + 1))) = some r := by first | (rw [hy135]; with_reducible exact H) | (have H2_ := (Option.bind_some _ _).symm.trans H; rw [hy135]; with_reducible exact H2_) | (have H2_ := (Option.bind_some _ _).symm.trans H; with_reducible exact H2_) | with_reducible exact H | (rw [hy135]; exact H) | exact H
              have Ny135 := Aside0.mk hy135
              clear hy135
              have H' := Aside0.mk H
              clear H
              have p133 : 0 ≤ (x8_1 : Int) := of_decide_eq_true (by first | (with_reducible assumption) | assumption)
              have q133 : x8_1 < (l0.length : Int) := of_decide_eq_true (by first | (with_reducible assumption) | assumption)
              obtain ⟨ad133, e133, hx133_0, hx133_1, hx133_2⟩ := at_T46 HR0.out x8_1 p133 q133
              cases e133
              replace hx133_0 := (HB.out.cell (World.block_lt_of_cell? w _ hx133_0)).trans hx133_0
              replace hx133_1 := (HB.out.cell (World.block_lt_of_cell? w _ hx133_1)).trans hx133_1
              replace hx133_2 := (HB.out.cell (World.block_lt_of_cell? w _ hx133_2)).trans hx133_2
              replace p133 := eq_true p133
              replace q133 := eq_true q133
              go_wp2_with (first | ((with_reducible refine gate_dst (N := 5) rfl ?_); refine box_event ?hg (N := 5) ?hd (cs := #[.int .u8 0, .int .i64 0, .bool false]) (t := 46) ?hr ?_; (case hd => rfl); (case hg => rfl); (case hr => first | (go_simp; done) | (go_simp; rfl)); intro gb134 hg w6 hbox hb; have n0_ := Aside0.mk (Kd.R_below (by (with_reducible repeat (first | apply Kd.R_alloc | apply Kd.R_drewN | apply Kd.R_drew)); exact HO_3.out) hb); have n1_ := Aside0.mk (below_step (by repeat (first | (with_reducible first | exact HB.out | apply below_alloc | apply pw_below_drewN | apply below_drew1) | exact HB.out)) hb); have n2_ := Aside0.mk (hbox); have n3_ := Aside0.mk ((by rw [hg]; exact (below_size (by repeat (first | (with_reducible first | exact HB.out | apply below_alloc | apply pw_below_drewN | apply below_drew1) | exact HB.out))) : w.heap.size ≤ gb134)); have n4_ := Aside0.mk ((by rw [hg]; exact (below_size (by repeat (first | (with_reducible first | exact HB.out | apply below_alloc | apply pw_below_drewN | apply below_drew1) | exact HB.out))) : w.heap.size ≤ gb134)); clear HO_3; clear HB; have HO_3 := n0_; have HB := n1_; have BK134 := n2_; have GW134 := n3_; have GE134 := n4_; clear n0_ n1_ n2_ n3_ n4_; clear hb hbox hg; have hcz7_0 : w6.cell? ⟨gb134, 0, none⟩ = some (.int .u8 0) := (blk_cell BK134.out 0).trans rfl; have hcz7_1 : w6.cell? ⟨gb134, 1, none⟩ = some (.int .i64 0) := (blk_cell BK134.out 1).trans rfl; have hcz7_2 : w6.cell? ⟨gb134, 2, none⟩ = some (.bool false) := (blk_cell BK134.out 2).trans rfl; have hfz7_0 := blk_frozen BK134.out 0; have hfz7_1 := blk_frozen BK134.out 1; have hfz7_2 := blk_frozen BK134.out 2) | ((with_reducible refine gate_builtin (b := .append) (xs := #[.tmp 12, .tmp 14]) rfl ?_); at_builtin; refine Kd.R_append k45 (w0 := w) w.heap.size rfl (.tmp 12) (.tmp 14) 28 45 (.agg #[(.int .u8 0), (.int .i64 0), (.bool false)]) 24 rfl Try.underlying28 info45 rfl (by decide) (by omega) u3 x3_1 (⟨(rd_T46 l0 x8_1).f0, (rd_T46 l0 x8_1).f1, (rd_T46 l0 x8_1).f2⟩ : S45) [.int .u8 ((rd_T46 l0 x8_1).f0), .int .i64 ((rd_T46 l0 x8_1).f1), .bool ((rd_T46 l0 x8_1).f2)] (fun _ => True) (fun _ => False) rfl (by first | (go_simp; done) | (go_simp; rfl)) ?aP (fun _ hk => hk.elim) ?aF ?aO ?aB ?aS ?aL ?_; (case aP => exact k45_mkM _ _ _ (⟨(rd_T46 l0 x8_1).f0, (rd_T46 l0 x8_1).f1, (rd_T46 l0 x8_1).f2⟩ : S45)); (case aB => exact (by repeat (first | (with_reducible first | exact HB.out | apply below_alloc | apply pw_below_drewN | apply below_drew1 | refine below_set ?_ GE134.out) | exact HB.out))); (case aF => exact (fun _ _ => trivial)); (case aO => exact (by (with_reducible repeat (first | apply Kd.R_alloc | apply Kd.R_drewN | apply Kd.R_drew)); exact Kd.R_mono (Kd.R_far (p := ⟨gb134, 2, none⟩) (Kd.R_far (p := ⟨gb134, 1, none⟩) (Kd.R_far (p := ⟨gb134, 0, none⟩) (Kd.R_types HO_3.out BK134.out (by decide)) (fun _ hk => hk.2) (.int .u8 ((rd_T46 l0 x8_1).f0))) (fun _ hk => hk.2) (.int .i64 ((rd_T46 l0 x8_1).f1))) (fun _ hk => hk.2) (.bool ((rd_T46 l0 x8_1).f2))) (fun _ hk => trivial))); (case aS => exact (below_size (by repeat (first | (with_reducible first | exact HB.out | apply below_alloc | apply pw_below_drewN | apply below_drew1 | refine below_set ?_ GE134.out) | exact HB.out)))); (case aL => have := LMc5.out; omega); intro v136 w8 ho hb hg hat; rw [← Ny135.out] at ho; have n0_ := Aside0.mk (blk_grown (g := gb134) (o := .cells #[.int .u8 ((rd_T46 l0 x8_1).f0), .int .i64 ((rd_T46 l0 x8_1).f1), .bool ((rd_T46 l0 x8_1).f2)] 46 (0, 0)) (by (with_reducible repeat (first | refine blk_drewN ?_ _ | refine blk_drew ?_ | refine blk_alloc ?_ _)); refine blk_put (cs := #[.int .u8 ((rd_T46 l0 x8_1).f0), .int .i64 ((rd_T46 l0 x8_1).f1), .bool false]) ?_ 2 _ rfl; (with_reducible repeat (first | refine blk_drewN ?_ _ | refine blk_drew ?_ | refine blk_alloc ?_ _)); refine blk_put (cs := #[.int .u8 ((rd_T46 l0 x8_1).f0), .int .i64 0, .bool false]) ?_ 1 _ rfl; (with_reducible repeat (first | refine blk_drewN ?_ _ | refine blk_drew ?_ | refine blk_alloc ?_ _)); refine blk_put (cs := #[.int .u8 0, .int .i64 0, .bool false]) ?_ 0 _ rfl; (with_reducible repeat (first | refine blk_drewN ?_ _ | refine blk_drew ?_ | refine blk_alloc ?_ _)); exact BK134.out) hg (Kd.R_ne HO_3.out BK134.out (by decide))); have n1_ := Aside0.mk (hb); have n2_ := Aside0.mk (ho); clear BK134; clear HB; clear HO_3; have BK134 := n0_; have HB := n1_; have HO137 := n2_; clear n0_ n1_ n2_; clear ho hb hg hat))
              go_roundg k1
              case measure => have := HK1.out; omega
              case rel => exact ⟨(y135), (wrap64 (x8_1 + 1)), (by first | rfl | (simp; done) | (simp [*]; done)), H', ⟨by have := HK1.out; omega⟩, ⟨by (with_reducible repeat (first | apply Kd.R_alloc | apply Kd.R_drewN | apply Kd.R_drew)); exact HO137.out⟩, ⟨by repeat (first | (with_reducible first | exact HB.out | apply below_alloc | apply pw_below_drewN | apply below_drew1 | refine below_set ?_ GE134.out) | exact HB.out)⟩⟩
            · rw [if_neg c5] at H
              exact absurd H (by simp)
          · rw [if_neg c4] at H
            exact absurd H (by simp)
        · rw [if_neg c3] at H
          exact absurd H (by simp)
      · rw [if_neg c2] at H
        have c2b0 : decide (x8_1 < (l0.length : Int)) = false := decide_eq_false c2
        clear c2
        obtain rfl := Option.some.inj H
        go_wp2
        go_ret
        exact ⟨_, by first | rfl | (simp [errW_none, errW_some] <;> rfl) | (simp [*, errW_none, errW_some] <;> rfl), by (with_reducible repeat (first | apply Kd.R_alloc | apply Kd.R_drewN | apply Kd.R_drew)); exact HO_3.out, by repeat (first | (with_reducible first | exact HB.out | apply below_alloc | apply pw_below_drewN | apply below_drew1) | exact HB.out)⟩

end Go.Proofs.Ytjabikmofancfaa.P
