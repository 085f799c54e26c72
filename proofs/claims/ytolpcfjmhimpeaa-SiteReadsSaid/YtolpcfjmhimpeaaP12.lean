-- PRINTED by print.py (a twelfth state) out of the translation. Not trusted: Lean checks it.
import Derived.Test.YtolpcfjmhimpeaaP0
import Derived.Test.YtolpcfjmhimpeaaP10
import Derived.Test.YtolpcfjmhimpeaaP11
namespace Go.Proofs.Ytolpcfjmhimpeaa.P
open Go.RowKit Go.Proofs.YtolpcfjmhimpeaaW.PrintWords Go.Proofs.YtolpcfjmhimpeaaW.PrintLast Go.Proofs.YtolpcfjmhimpeaaW.PrintMore
attribute [local go_sem] max2_int min2_int max_two min_two max_three min_three max_four min_four   -- for this text's walks alone
set_option linter.unusedVariables false
set_option linter.unusedSimpArgs false

/-! ### part_Decide: function 50 -/
mutual
def part_Decide.j1 : Nat → Int → Int → List (S73) → Bool → Int → Option (Int × (List (S73)) × Bool × Int × (List (S73)) × Int)
  | 0, _, _, _, _, _ => none
  | k + 1, x1, x261000, x261001, x261002, x261003 => if ((x1 == 1) == x261002) = true then (some (3, x261001, x261002, x1, ([] : List (S73)), 0)) else (if x261002 = true then ((part_opposites.f x261001).bind fun t269 => (some (3, x261001, x261002, x1, t269, 0))) else ((api_Delta.f x261001).bind fun t272 => (some (3, x261001, x261002, x1, t272, 0))))
def part_Decide.j0 : Nat → Int → Bool → Int → List (S73) → Bool → Int → Option (Int × (List (S73)) × Bool × Int × (List (S73)) × Int)
  | 0, _, _, _, _, _, _ => none
  | k + 1, x1, x9, x261000, x261001, x261002, x261003 => if x9 = true then (some (x261000, x261001, x261002, x261003, ([] : List (S73)), 2)) else (if x261003 = x1 then (some (x261000, x261001, x261002, x261003, ([] : List (S73)), 0)) else (if x261000 = 3 then (some (x261000, x261001, x261002, x261003, ([] : List (S73)), 13)) else (if x1 = 1 then (if x261000 = 1 then (part_Decide.j1 k x1 x261000 x261001 x261002 x261003) else (some (x261000, x261001, x261002, x261003, ([] : List (S73)), 13))) else (part_Decide.j1 k x1 x261000 x261001 x261002 x261003))))
end
def part_Decide.f (k : Nat) (a0_0 : Int) (l0_1 : List (S73)) (a0_2 : Bool) (a0_3 : Int) (a1 : Int) : Option (Int × (List (S73)) × Bool × Int × (List (S73)) × Int) := (part_Part_own.f a0_0 l0_1 a0_2 a0_3).bind fun bt262 => ((part_Right.f bt262.1 bt262.2.1 bt262.2.2.1 bt262.2.2.2).bind fun t268 => (if t268 = true then (if a1 = 1 then (part_Decide.j0 k a1 false bt262.1 bt262.2.1 bt262.2.2.1 bt262.2.2.2) else (part_Decide.j0 k a1 (a1 != 2) bt262.1 bt262.2.1 bt262.2.2.1 bt262.2.2.2)) else (part_Decide.j0 k a1 true bt262.1 bt262.2.1 bt262.2.2.1 bt262.2.2.2)))
theorem part_Decide.mono_l : ∀ k, (∀ y0 y1 y2 y3 y4, LeO (part_Decide.j1 k y0 y1 y2 y3 y4) (part_Decide.j1 (k + 1) y0 y1 y2 y3 y4)) ∧ (∀ y0 y1 y2 y3 y4 y5, LeO (part_Decide.j0 k y0 y1 y2 y3 y4 y5) (part_Decide.j0 (k + 1) y0 y1 y2 y3 y4 y5))
  | 0 => ⟨fun _ _ _ _ _ r h => by simp [part_Decide.j1] at h, fun _ _ _ _ _ _ r h => by simp [part_Decide.j0] at h⟩
  | k + 1 => by
    obtain ⟨ih0, ih1⟩ := part_Decide.mono_l k
    refine ⟨?_, ?_⟩
    · intro y0 y1 y2 y3 y4
      unfold part_Decide.j1
      repeat' first
      | (with_reducible exact ih0 _ _ _ _ _)
      | (with_reducible exact ih1 _ _ _ _ _ _)
      | (with_reducible exact LeO.refl _)
      | (with_reducible exact LeO.none _)
      | (with_reducible refine LeO.ite ?_ ?_)
      | (with_reducible refine LeO.bind ?_ (fun _ => ?_))
      | exact ih0 _ _ _ _ _
      | exact ih1 _ _ _ _ _ _
      | exact LeO.none _
      | refine LeO.ite ?_ ?_
      | refine LeO.bind ?_ (fun _ => ?_)
    · intro y0 y1 y2 y3 y4 y5
      unfold part_Decide.j0
      repeat' first
      | (with_reducible exact ih0 _ _ _ _ _)
      | (with_reducible exact ih1 _ _ _ _ _ _)
      | (with_reducible exact LeO.refl _)
      | (with_reducible exact LeO.none _)
      | (with_reducible refine LeO.ite ?_ ?_)
      | (with_reducible refine LeO.bind ?_ (fun _ => ?_))
      | exact ih0 _ _ _ _ _
      | exact ih1 _ _ _ _ _ _
      | exact LeO.none _
      | refine LeO.ite ?_ ?_
      | refine LeO.bind ?_ (fun _ => ?_)
theorem part_Decide.mono : ∀ a0 a1 a2 a3 a4 k, LeO (part_Decide.f k a0 a1 a2 a3 a4) (part_Decide.f (k + 1) a0 a1 a2 a3 a4) := by
  intro a0 a1 a2 a3 a4 k
  obtain ⟨ih0, ih1⟩ := part_Decide.mono_l k
  unfold part_Decide.f
  repeat' first
      | (with_reducible exact ih0 _ _ _ _ _)
      | (with_reducible exact ih1 _ _ _ _ _ _)
      | (with_reducible exact LeO.refl _)
      | (with_reducible exact LeO.none _)
      | (with_reducible refine LeO.ite ?_ ?_)
      | (with_reducible refine LeO.bind ?_ (fun _ => ?_))
      | exact ih0 _ _ _ _ _
      | exact ih1 _ _ _ _ _ _
      | exact LeO.none _
      | refine LeO.ite ?_ ?_
      | refine LeO.bind ?_ (fun _ => ?_)
set_option maxHeartbeats 8000000 in
set_option maxRecDepth 100000 in
theorem part_Decide.calls (k : Nat) (a0_0 : Int) (A0_1 : Option Addr) (c0_1 : Nat) (l0_1 : List (S73)) (a0_2 : Bool) (a0_3 : Int) (a1 : Int) (r1 : Int) (r2 : List (S73)) (r3 : Bool) (r4 : Int) (r5 : List (S73)) (r6 : Int) (w : World) (hr0_1 : Kd.C k73 w A0_1 l0_1.length l0_1) (hc0_1 : l0_1.length ≤ c0_1) (h : part_Decide.f k a0_0 l0_1 a0_2 a0_3 a1 = some (r1, r2, r3, r4, r5, r6)) :
    Calls Try.prog 50 #[.agg #[.int .i64 a0_0, .slice A0_1 l0_1.length c0_1, .bool a0_2, .int .i64 a0_3], .int .i64 a1] w fun e w' => ∃ v1_ v4_ : Value, e = .returned (.tuple #[.agg #[.int .i64 r1, v1_, .bool r3, .int .i64 r4], v4_, .int .i64 r6]) ∧ Kd.R k73 73 w' w.heap.size (fun k_ => some k_ ≠ (v4_ : Value).ownBlock) v1_ r2 ∧ Kd.R k73 73 w' w.heap.size (fun k_ => some k_ ≠ (v1_ : Value).ownBlock) v4_ r5 ∧ Below w.heap.size w w' := by
  have hu40 := Try.underlying40
  have HR0_1 := Aside0.mk hr0_1
  have HC0_1 := Aside0.mk hc0_1
  clear hr0_1 hc0_1
  have HB := Aside0.mk (Below.refl w.heap.size w)
  have H : ((part_Part_own.f a0_0 l0_1 a0_2 a0_3).bind fun bt262 => ((part_Right.f bt262.1 bt262.2.1 bt262.2.2.1 bt262.2.2.2).bind fun t268 => (if t268 = true then (if a1 = 1 then (part_Decide.j0 k a1 false bt262.1 bt262.2.1 bt262.2.2.1 bt262.2.2.2) else (part_Decide.j0 k a1 (a1 != 2) bt262.1 bt262.2.1 bt262.2.2.1 bt262.2.2.2)) else (part_Decide.j0 k a1 true bt262.1 bt262.2.1 bt262.2.2.1 bt262.2.2.2)))) = some (r1, r2, r3, r4, r5, r6) := h
  clear h
  replace H := Option.bind_eq_some_iff.mp H
  obtain ⟨⟨t262, t263, t266, t267⟩, A30, H⟩ := H
  replace H : ((part_Right.f t262 t263 t266 t267).bind fun t268 => (if t268 = true then (if a1 = 1 then (part_Decide.j0 k a1 false t262 t263 t266 t267) else (part_Decide.j0 k a1 (a1 != 2) t262 t263 t266 t267)) else (part_Decide.j0 k a1 true t262 t263 t266 t267))) = some (r1, r2, r3, r4, r5, r6) := H
  have A3 := Aside0.mk A30
  clear A30
  have HC4 := Aside0.mk H
  clear H
  go_enter Try.func50, Try.ntmps50
  go_upto_block 0 with (first | ((with_reducible refine gate_dst (N := 2) rfl ?_); refine box_event ?hg (N := 2) ?hd (cs := #[.int .i64 a0_0, .slice A0_1 l0_1.length c0_1, .bool a0_2, .int .i64 a0_3]) (t := 40) ?hr ?_; (case hd => rfl); (case hg => rfl); (case hr => first | (go_simp; done) | (go_simp; rfl)); intro gb260 hg w5 hbox hb; have n0_ := Aside0.mk (below_step (by repeat (first | (with_reducible first | exact HB.out | apply below_alloc | apply pw_below_drewN | apply below_drew1) | exact HB.out)) hb); have n1_ := Aside0.mk (hbox); have n2_ := Aside0.mk ((by rw [hg]; exact (below_size (by repeat (first | (with_reducible first | exact HB.out | apply below_alloc | apply pw_below_drewN | apply below_drew1) | exact HB.out))) : w.heap.size ≤ gb260)); have n3_ := Aside0.mk ((by rw [hg]; exact (below_size (by repeat (first | (with_reducible first | exact HB.out | apply below_alloc | apply pw_below_drewN | apply below_drew1) | exact HB.out))) : w.heap.size ≤ gb260)); clear HB; have HB := n0_; have BK260 := n1_; have GW260 := n2_; have GE260 := n3_; clear n0_ n1_ n2_ n3_; clear hb hbox hg) | ((with_reducible refine gate_dst (N := 4) rfl ?_); refine box_event ?hg (N := 4) ?hd (cs := #[.int .i64 0, .slice none 0 0, .bool false, .int .i64 0]) (t := 40) ?hr ?_; (case hd => rfl); (case hg => rfl); (case hr => first | (go_simp; done) | (go_simp; rfl)); intro gb261 hg w6 hbox hb; have n0_ := Aside0.mk (blk_below (g := gb260) (o := .cells #[.int .i64 a0_0, .slice A0_1 l0_1.length c0_1, .bool a0_2, .int .i64 a0_3] 40 (0, 0)) (by (with_reducible repeat (first | refine blk_drewN ?_ _ | refine blk_drew ?_ | refine blk_alloc ?_ _)); exact BK260.out) hb); have n1_ := Aside0.mk (below_step (by repeat (first | (with_reducible first | exact HB.out | apply below_alloc | apply pw_below_drewN | apply below_drew1 | refine below_set ?_ GE260.out) | exact HB.out)) hb); have n2_ := Aside0.mk (hbox); have n3_ := Aside0.mk ((by rw [hg]; exact (below_size (by repeat (first | (with_reducible first | exact HB.out | apply below_alloc | apply pw_below_drewN | apply below_drew1 | refine below_set ?_ GE260.out) | exact HB.out))) : w.heap.size ≤ gb261)); have n4_ := Aside0.mk ((by rw [hg]; exact (below_size (by repeat (first | (with_reducible first | exact HB.out | apply below_alloc | apply pw_below_drewN | apply below_drew1 | refine below_set ?_ GE260.out) | exact HB.out))) : w.heap.size ≤ gb261)); have n5_ := Aside0.mk ((by rw [hg]; exact Nat.ne_of_lt (blk_lt (g := gb260) (o := .cells #[.int .i64 a0_0, .slice A0_1 l0_1.length c0_1, .bool a0_2, .int .i64 a0_3] 40 (0, 0)) (by (with_reducible repeat (first | refine blk_drewN ?_ _ | refine blk_drew ?_ | refine blk_alloc ?_ _)); exact BK260.out)) : gb260 ≠ gb261)); have n6_ := Aside0.mk ((by rw [hg]; exact Nat.ne_of_gt (blk_lt (g := gb260) (o := .cells #[.int .i64 a0_0, .slice A0_1 l0_1.length c0_1, .bool a0_2, .int .i64 a0_3] 40 (0, 0)) (by (with_reducible repeat (first | refine blk_drewN ?_ _ | refine blk_drew ?_ | refine blk_alloc ?_ _)); exact BK260.out)) : gb261 ≠ gb260)); clear BK260; clear HB; have BK260 := n0_; have HB := n1_; have BK261 := n2_; have GW261 := n3_; have GE261 := n4_; have NB260_261 := n5_; have NB261_260 := n6_; clear n0_ n1_ n2_ n3_ n4_ n5_ n6_; clear hb hbox hg; have hnb7 := NB260_261.out; have hnc7 := NB261_260.out; have hcz8_0 : w6.cell? ⟨gb260, 0, none⟩ = some (.int .i64 a0_0) := (blk_cell BK260.out 0).trans rfl; have hcz8_1 : w6.cell? ⟨gb260, 1, none⟩ = some (.slice A0_1 l0_1.length c0_1) := (blk_cell BK260.out 1).trans rfl; have hcz8_2 : w6.cell? ⟨gb260, 2, none⟩ = some (.bool a0_2) := (blk_cell BK260.out 2).trans rfl; have hcz8_3 : w6.cell? ⟨gb260, 3, none⟩ = some (.int .i64 a0_3) := (blk_cell BK260.out 3).trans rfl; have hfz8_0 := blk_frozen BK260.out 0; have hfz8_1 := blk_frozen BK260.out 1; have hfz8_2 := blk_frozen BK260.out 2; have hfz8_3 := blk_frozen BK260.out 3) | ((with_reducible refine gate_callee (f := 68) rfl ?_); refine goesL_ (some 8) rfl rfl Try.func68 (by kernel_rfl) rfl #[.agg #[.int .i64 a0_0, .slice A0_1 l0_1.length c0_1, .bool a0_2, .int .i64 a0_3]] rfl (by (try simp only [List.map_toArray, List.map_cons, List.map_nil]); first | done | rfl | (simp only [List.length_drop, List.length_take]; rfl)) ?_; (with_reducible refine (part_Part_own.calls a0_0 _ _ l0_1 a0_2 a0_3 t262 t263 t266 t267 _ ?side1 ?side2 A3.out).mono ?_); (case side1 => repeat (first | exact (Kd.C_below HR0_1.out HB.out) | (with_reducible refine Kd.C_alloc ?_ _) | (with_reducible refine Kd.C_drewN ?_ _) | (with_reducible refine Kd.C_drew ?_))); (case side2 => exact HC0_1.out); rintro e w9 ⟨v264, rfl, ho0, hb⟩; refine ⟨_, rfl, ?_⟩; have n0_ := Aside0.mk (Kd.R_lower ho0 (below_size (by repeat (first | (with_reducible first | exact HB.out | apply below_alloc | apply pw_below_drewN | apply below_drew1 | refine below_set ?_ GE260.out | refine below_set ?_ GE261.out) | exact HB.out)))); have n1_ := Aside0.mk (blk_below (g := gb260) (o := .cells #[.int .i64 a0_0, .slice A0_1 l0_1.length c0_1, .bool a0_2, .int .i64 a0_3] 40 (0, 0)) (by (with_reducible repeat (first | refine blk_drewN ?_ _ | refine blk_drew ?_ | refine blk_alloc ?_ _)); exact BK260.out) hb); have n2_ := Aside0.mk (blk_below (g := gb261) (o := .cells #[.int .i64 0, .slice none 0 0, .bool false, .int .i64 0] 40 (0, 0)) (by (with_reducible repeat (first | refine blk_drewN ?_ _ | refine blk_drew ?_ | refine blk_alloc ?_ _)); exact BK261.out) hb); have n3_ := Aside0.mk (below_step (by repeat (first | (with_reducible first | exact HB.out | apply below_alloc | apply pw_below_drewN | apply below_drew1 | refine below_set ?_ GE260.out | refine below_set ?_ GE261.out) | exact HB.out)) hb); clear BK260; clear BK261; clear HB; have HO265 := n0_; have BK260 := n1_; have BK261 := n2_; have HB := n3_; clear n0_ n1_ n2_ n3_; (try clear hb); (try clear hb2); (try clear hk); (try clear hi); (try clear ho0); have hcz10_0 : w9.cell? ⟨gb260, 0, none⟩ = some (.int .i64 a0_0) := (blk_cell BK260.out 0).trans rfl; have hcz10_1 : w9.cell? ⟨gb260, 1, none⟩ = some (.slice A0_1 l0_1.length c0_1) := (blk_cell BK260.out 1).trans rfl; have hcz10_2 : w9.cell? ⟨gb260, 2, none⟩ = some (.bool a0_2) := (blk_cell BK260.out 2).trans rfl; have hcz10_3 : w9.cell? ⟨gb260, 3, none⟩ = some (.int .i64 a0_3) := (blk_cell BK260.out 3).trans rfl; have hfz10_0 := blk_frozen BK260.out 0; have hfz10_1 := blk_frozen BK260.out 1; have hfz10_2 := blk_frozen BK260.out 2; have hfz10_3 := blk_frozen BK260.out 3; obtain ⟨Ao11, co11, eo11⟩ := Kd.R_slice HO265.out; subst eo11))
  (try simp only [Act.put, List.setIfInBounds_toArray, List.set_cons_zero, List.set_cons_succ])
  go_cut [] (fun wc => ∃ (kq : Nat) (x262000_3 : Int) (x262002_3 : Bool) (x262003_3 : Int), Aside0 (part_Decide.j1 kq a1 t262 t263 t266 t267 = some (r1, r2, r3, r4, r5, r6)) ∧ Aside0 (kq ≤ k) ∧ Aside0 (Kd.R k73 73 wc w.heap.size (fun _ => True) (.slice Ao11 t263.length co11) t263) ∧ Aside0 (wc.heap[gb260]? = some (.cells #[.int .i64 t262, (.slice Ao11 t263.length co11), .bool t266, .int .i64 t267] 40 (0, 0))) ∧ Aside0 (wc.heap[gb261]? = some (.cells #[.int .i64 x262000_3, (.slice none 0 0), .bool x262002_3, .int .i64 x262003_3] 40 (0, 0))) ∧ Aside0 (Below w.heap.size w wc))
  case first =>
    have H := HC4.out
    clear HC4
    have HC12 := Aside0.mk H
    clear H
    go_upto_region 2 with (fail)
    go_cut [9] (fun v9 wc => ∃ (kq : Nat) (x9_11 : Bool), v9 = .bool x9_11 ∧ Aside0 (part_Decide.j0 kq a1 x9_11 t262 t263 t266 t267 = some (r1, r2, r3, r4, r5, r6)) ∧ Aside0 (kq ≤ k) ∧ Aside0 (Kd.R k73 73 wc w.heap.size (fun _ => True) (.slice Ao11 t263.length co11) t263) ∧ Aside0 (wc.heap[gb260]? = some (.cells #[.int .i64 t262, (.slice Ao11 t263.length co11), .bool t266, .int .i64 t267] 40 (0, 0))) ∧ Aside0 (wc.heap[gb261]? = some (.cells #[.int .i64 0, (.slice none 0 0), .bool false, .int .i64 0] 40 (0, 0))) ∧ Aside0 (Below w.heap.size w wc))
    case first =>
      have H := HC12.out
      clear HC12
      replace H := Option.bind_eq_some_iff.mp H
      obtain ⟨t268, A130, H⟩ := H
      replace H : (if t268 = true then (if a1 = 1 then (part_Decide.j0 k a1 false t262 t263 t266 t267) else (part_Decide.j0 k a1 (a1 != 2) t262 t263 t266 t267)) else (part_Decide.j0 k a1 true t262 t263 t266 t267)) = some (r1, r2, r3, r4, r5, r6) := H
      have A13 := Aside0.mk A130
      clear A130
      by_cases c14 : t268 = true
      · subst c14
        have H1 : (if a1 = 1 then (part_Decide.j0 k a1 false t262 t263 t266 t267) else (part_Decide.j0 k a1 (a1 != 2) t262 t263 t266 t267)) = some (r1, r2, r3, r4, r5, r6) := by rw [if_pos rfl] at H; exact H
        clear H
        have H := H1
        clear H1
        by_cases c15 : a1 = 1
        · rw [if_pos c15] at H
          have c15b0 : (a1 == 1) = true := beq_iff_eq.mpr c15
          have c15b1 : (a1 != 1) = false := bne_eq_false_iff_eq.mpr c15
          clear c15
          (first | rw [c15b0] | (simp only [i64_w, i32_w]; rw [c15b0]) | skip)
          have H' := Aside0.mk H
          clear H
          have hnb16 := NB260_261.out
          have hnc16 := NB261_260.out
          have hcz17_0 : w9.cell? ⟨gb260, 0, none⟩ = some (.int .i64 a0_0) := (blk_cell BK260.out 0).trans rfl
          have hcz17_1 : w9.cell? ⟨gb260, 1, none⟩ = some (.slice A0_1 l0_1.length c0_1) := (blk_cell BK260.out 1).trans rfl
          have hcz17_2 : w9.cell? ⟨gb260, 2, none⟩ = some (.bool a0_2) := (blk_cell BK260.out 2).trans rfl
          have hcz17_3 : w9.cell? ⟨gb260, 3, none⟩ = some (.int .i64 a0_3) := (blk_cell BK260.out 3).trans rfl
          have hfz17_0 := blk_frozen BK260.out 0
          have hfz17_1 := blk_frozen BK260.out 1
          have hfz17_2 := blk_frozen BK260.out 2
          have hfz17_3 := blk_frozen BK260.out 3
          go_wp2_with (first | ((with_reducible refine gate_callee (f := 33) rfl ?_); refine goesL_ (some 11) rfl rfl Try.func33 (by kernel_rfl) rfl #[.agg #[.int .i64 t262, .slice Ao11 t263.length co11, .bool t266, .int .i64 t267]] rfl (by (try simp only [List.map_toArray, List.map_cons, List.map_nil]); first | done | rfl | (simp only [List.length_drop, List.length_take]; rfl)) ?_; (with_reducible refine (part_Right.calls t262 _ _ t263 t266 t267 true _ ?side1 ?side2 A13.out).mono ?_); (case side1 => refine (Kd.R_reads' (e := 73) (base := w.heap.size) (ok := fun k_ => True) (n := t263.length) (c := co11) ?_).2.2; exact (by (with_reducible repeat (first | apply Kd.R_alloc | apply Kd.R_drewN | apply Kd.R_drew)); exact (Kd.R_mono (Kd.R_far (p := ⟨gb260, 3, none⟩) (Kd.R_far (p := ⟨gb260, 2, none⟩) (Kd.R_far (p := ⟨gb260, 1, none⟩) (Kd.R_far (p := ⟨gb260, 0, none⟩) (Kd.R_types HO265.out BK260.out (by decide)) (fun _ hk => hk.2) (.int .i64 t262)) (fun _ hk => hk.2) (.slice Ao11 t263.length co11)) (fun _ hk => hk.2) (.bool t266)) (fun _ hk => hk.2) (.int .i64 t267)) (fun _ h_ => h_.1)))); (case side2 => exact (Kd.R_reads' HO265.out).2.1); rintro e w18 ⟨rfl, hb⟩; refine ⟨_, rfl, ?_⟩; have n0_ := Aside0.mk (Kd.R_below (by (with_reducible repeat (first | apply Kd.R_alloc | apply Kd.R_drewN | apply Kd.R_drew)); exact (Kd.R_mono (Kd.R_far (p := ⟨gb260, 3, none⟩) (Kd.R_far (p := ⟨gb260, 2, none⟩) (Kd.R_far (p := ⟨gb260, 1, none⟩) (Kd.R_far (p := ⟨gb260, 0, none⟩) (Kd.R_types HO265.out BK260.out (by decide)) (fun _ hk => hk.2) (.int .i64 t262)) (fun _ hk => hk.2) (.slice Ao11 t263.length co11)) (fun _ hk => hk.2) (.bool t266)) (fun _ hk => hk.2) (.int .i64 t267)) (fun _ h_ => h_.1))) hb); have n1_ := Aside0.mk (blk_below (g := gb260) (o := .cells #[.int .i64 t262, .slice Ao11 t263.length co11, .bool t266, .int .i64 t267] 40 (0, 0)) (by (with_reducible repeat (first | refine blk_drewN ?_ _ | refine blk_drew ?_ | refine blk_alloc ?_ _)); refine blk_put (cs := #[.int .i64 t262, .slice Ao11 t263.length co11, .bool t266, .int .i64 a0_3]) ?_ 3 _ rfl; (with_reducible repeat (first | refine blk_drewN ?_ _ | refine blk_drew ?_ | refine blk_alloc ?_ _)); refine blk_put (cs := #[.int .i64 t262, .slice Ao11 t263.length co11, .bool a0_2, .int .i64 a0_3]) ?_ 2 _ rfl; (with_reducible repeat (first | refine blk_drewN ?_ _ | refine blk_drew ?_ | refine blk_alloc ?_ _)); refine blk_put (cs := #[.int .i64 t262, .slice A0_1 l0_1.length c0_1, .bool a0_2, .int .i64 a0_3]) ?_ 1 _ rfl; (with_reducible repeat (first | refine blk_drewN ?_ _ | refine blk_drew ?_ | refine blk_alloc ?_ _)); refine blk_put (cs := #[.int .i64 a0_0, .slice A0_1 l0_1.length c0_1, .bool a0_2, .int .i64 a0_3]) ?_ 0 _ rfl; (with_reducible repeat (first | refine blk_drewN ?_ _ | refine blk_drew ?_ | refine blk_alloc ?_ _)); exact BK260.out) hb); have n2_ := Aside0.mk (blk_below (g := gb261) (o := .cells #[.int .i64 0, .slice none 0 0, .bool false, .int .i64 0] 40 (0, 0)) (by (with_reducible repeat (first | refine blk_drewN ?_ _ | refine blk_drew ?_ | refine blk_alloc ?_ _)); refine blk_far ?_ NB261_260.out _; (with_reducible repeat (first | refine blk_drewN ?_ _ | refine blk_drew ?_ | refine blk_alloc ?_ _)); refine blk_far ?_ NB261_260.out _; (with_reducible repeat (first | refine blk_drewN ?_ _ | refine blk_drew ?_ | refine blk_alloc ?_ _)); refine blk_far ?_ NB261_260.out _; (with_reducible repeat (first | refine blk_drewN ?_ _ | refine blk_drew ?_ | refine blk_alloc ?_ _)); refine blk_far ?_ NB261_260.out _; (with_reducible repeat (first | refine blk_drewN ?_ _ | refine blk_drew ?_ | refine blk_alloc ?_ _)); exact BK261.out) hb); have n3_ := Aside0.mk (below_step (by repeat (first | (with_reducible first | exact HB.out | apply below_alloc | apply pw_below_drewN | apply below_drew1 | refine below_set ?_ GE260.out | refine below_set ?_ GE261.out) | exact HB.out)) hb); clear HO265; clear BK260; clear BK261; clear HB; have HO265 := n0_; have BK260 := n1_; have BK261 := n2_; have HB := n3_; clear n0_ n1_ n2_ n3_; (try clear hb); (try clear hb2); (try clear hk); (try clear hi)))
          go_meet
          case rel => exact ⟨_, (false), (by first | rfl | (simp; done) | (simp [*]; done)), H', ⟨by first | omega | exact Nat.le_refl _⟩, ⟨by (with_reducible repeat (first | apply Kd.R_alloc | apply Kd.R_drewN | apply Kd.R_drew)); exact HO265.out⟩, ⟨by (with_reducible repeat (first | refine blk_drewN ?_ _ | refine blk_drew ?_ | refine blk_alloc ?_ _)); exact BK260.out⟩, ⟨by (with_reducible repeat (first | refine blk_drewN ?_ _ | refine blk_drew ?_ | refine blk_alloc ?_ _)); exact BK261.out⟩, ⟨by repeat (first | (with_reducible first | exact HB.out | apply below_alloc | apply pw_below_drewN | apply below_drew1 | refine below_set ?_ GE260.out | refine below_set ?_ GE261.out) | exact HB.out)⟩⟩
        · rw [if_neg c15] at H
          have c15b0 : (a1 == 1) = false := beq_eq_false_iff_ne.mpr c15
          have c15b1 : (a1 != 1) = true := bne_iff_ne.mpr c15
          (first | rw [c15b0] | (simp only [i64_w, i32_w]; rw [c15b0]) | skip)
          have H' := Aside0.mk H
          clear H
          have hnb19 := NB260_261.out
          have hnc19 := NB261_260.out
          have hcz20_0 : w9.cell? ⟨gb260, 0, none⟩ = some (.int .i64 a0_0) := (blk_cell BK260.out 0).trans rfl
          have hcz20_1 : w9.cell? ⟨gb260, 1, none⟩ = some (.slice A0_1 l0_1.length c0_1) := (blk_cell BK260.out 1).trans rfl
          have hcz20_2 : w9.cell? ⟨gb260, 2, none⟩ = some (.bool a0_2) := (blk_cell BK260.out 2).trans rfl
          have hcz20_3 : w9.cell? ⟨gb260, 3, none⟩ = some (.int .i64 a0_3) := (blk_cell BK260.out 3).trans rfl
          have hfz20_0 := blk_frozen BK260.out 0
          have hfz20_1 := blk_frozen BK260.out 1
          have hfz20_2 := blk_frozen BK260.out 2
          have hfz20_3 := blk_frozen BK260.out 3
          go_wp2_with (first | ((with_reducible refine gate_callee (f := 33) rfl ?_); refine goesL_ (some 11) rfl rfl Try.func33 (by kernel_rfl) rfl #[.agg #[.int .i64 t262, .slice Ao11 t263.length co11, .bool t266, .int .i64 t267]] rfl (by (try simp only [List.map_toArray, List.map_cons, List.map_nil]); first | done | rfl | (simp only [List.length_drop, List.length_take]; rfl)) ?_; (with_reducible refine (part_Right.calls t262 _ _ t263 t266 t267 true _ ?side1 ?side2 A13.out).mono ?_); (case side1 => refine (Kd.R_reads' (e := 73) (base := w.heap.size) (ok := fun k_ => True) (n := t263.length) (c := co11) ?_).2.2; exact (by (with_reducible repeat (first | apply Kd.R_alloc | apply Kd.R_drewN | apply Kd.R_drew)); exact (Kd.R_mono (Kd.R_far (p := ⟨gb260, 3, none⟩) (Kd.R_far (p := ⟨gb260, 2, none⟩) (Kd.R_far (p := ⟨gb260, 1, none⟩) (Kd.R_far (p := ⟨gb260, 0, none⟩) (Kd.R_types HO265.out BK260.out (by decide)) (fun _ hk => hk.2) (.int .i64 t262)) (fun _ hk => hk.2) (.slice Ao11 t263.length co11)) (fun _ hk => hk.2) (.bool t266)) (fun _ hk => hk.2) (.int .i64 t267)) (fun _ h_ => h_.1)))); (case side2 => exact (Kd.R_reads' HO265.out).2.1); rintro e w21 ⟨rfl, hb⟩; refine ⟨_, rfl, ?_⟩; have n0_ := Aside0.mk (Kd.R_below (by (with_reducible repeat (first | apply Kd.R_alloc | apply Kd.R_drewN | apply Kd.R_drew)); exact (Kd.R_mono (Kd.R_far (p := ⟨gb260, 3, none⟩) (Kd.R_far (p := ⟨gb260, 2, none⟩) (Kd.R_far (p := ⟨gb260, 1, none⟩) (Kd.R_far (p := ⟨gb260, 0, none⟩) (Kd.R_types HO265.out BK260.out (by decide)) (fun _ hk => hk.2) (.int .i64 t262)) (fun _ hk => hk.2) (.slice Ao11 t263.length co11)) (fun _ hk => hk.2) (.bool t266)) (fun _ hk => hk.2) (.int .i64 t267)) (fun _ h_ => h_.1))) hb); have n1_ := Aside0.mk (blk_below (g := gb260) (o := .cells #[.int .i64 t262, .slice Ao11 t263.length co11, .bool t266, .int .i64 t267] 40 (0, 0)) (by (with_reducible repeat (first | refine blk_drewN ?_ _ | refine blk_drew ?_ | refine blk_alloc ?_ _)); refine blk_put (cs := #[.int .i64 t262, .slice Ao11 t263.length co11, .bool t266, .int .i64 a0_3]) ?_ 3 _ rfl; (with_reducible repeat (first | refine blk_drewN ?_ _ | refine blk_drew ?_ | refine blk_alloc ?_ _)); refine blk_put (cs := #[.int .i64 t262, .slice Ao11 t263.length co11, .bool a0_2, .int .i64 a0_3]) ?_ 2 _ rfl; (with_reducible repeat (first | refine blk_drewN ?_ _ | refine blk_drew ?_ | refine blk_alloc ?_ _)); refine blk_put (cs := #[.int .i64 t262, .slice A0_1 l0_1.length c0_1, .bool a0_2, .int .i64 a0_3]) ?_ 1 _ rfl; (with_reducible repeat (first | refine blk_drewN ?_ _ | refine blk_drew ?_ | refine blk_alloc ?_ _)); refine blk_put (cs := #[.int .i64 a0_0, .slice A0_1 l0_1.length c0_1, .bool a0_2, .int .i64 a0_3]) ?_ 0 _ rfl; (with_reducible repeat (first | refine blk_drewN ?_ _ | refine blk_drew ?_ | refine blk_alloc ?_ _)); exact BK260.out) hb); have n2_ := Aside0.mk (blk_below (g := gb261) (o := .cells #[.int .i64 0, .slice none 0 0, .bool false, .int .i64 0] 40 (0, 0)) (by (with_reducible repeat (first | refine blk_drewN ?_ _ | refine blk_drew ?_ | refine blk_alloc ?_ _)); refine blk_far ?_ NB261_260.out _; (with_reducible repeat (first | refine blk_drewN ?_ _ | refine blk_drew ?_ | refine blk_alloc ?_ _)); refine blk_far ?_ NB261_260.out _; (with_reducible repeat (first | refine blk_drewN ?_ _ | refine blk_drew ?_ | refine blk_alloc ?_ _)); refine blk_far ?_ NB261_260.out _; (with_reducible repeat (first | refine blk_drewN ?_ _ | refine blk_drew ?_ | refine blk_alloc ?_ _)); refine blk_far ?_ NB261_260.out _; (with_reducible repeat (first | refine blk_drewN ?_ _ | refine blk_drew ?_ | refine blk_alloc ?_ _)); exact BK261.out) hb); have n3_ := Aside0.mk (below_step (by repeat (first | (with_reducible first | exact HB.out | apply below_alloc | apply pw_below_drewN | apply below_drew1 | refine below_set ?_ GE260.out | refine below_set ?_ GE261.out) | exact HB.out)) hb); clear HO265; clear BK260; clear BK261; clear HB; have HO265 := n0_; have BK260 := n1_; have BK261 := n2_; have HB := n3_; clear n0_ n1_ n2_ n3_; (try clear hb); (try clear hb2); (try clear hk); (try clear hi)))
          go_meet
          case rel => exact ⟨_, ((a1 != 2)), (by first | rfl | (simp; done) | (simp [*]; done)), H', ⟨by first | omega | exact Nat.le_refl _⟩, ⟨by (with_reducible repeat (first | apply Kd.R_alloc | apply Kd.R_drewN | apply Kd.R_drew)); exact HO265.out⟩, ⟨by (with_reducible repeat (first | refine blk_drewN ?_ _ | refine blk_drew ?_ | refine blk_alloc ?_ _)); exact BK260.out⟩, ⟨by (with_reducible repeat (first | refine blk_drewN ?_ _ | refine blk_drew ?_ | refine blk_alloc ?_ _)); exact BK261.out⟩, ⟨by repeat (first | (with_reducible first | exact HB.out | apply below_alloc | apply pw_below_drewN | apply below_drew1 | refine below_set ?_ GE260.out | refine below_set ?_ GE261.out) | exact HB.out)⟩⟩
      · replace c14 := Bool.eq_false_iff.mpr c14
        subst c14
        have H1 : (part_Decide.j0 k a1 true t262 t263 t266 t267) = some (r1, r2, r3, r4, r5, r6) := by rw [if_neg (show ¬ (false = true) by decide)] at H; exact H
        clear H
        have H := H1
        clear H1
        have H' := Aside0.mk H
        clear H
        have hnb22 := NB260_261.out
        have hnc22 := NB261_260.out
        have hcz23_0 : w9.cell? ⟨gb260, 0, none⟩ = some (.int .i64 a0_0) := (blk_cell BK260.out 0).trans rfl
        have hcz23_1 : w9.cell? ⟨gb260, 1, none⟩ = some (.slice A0_1 l0_1.length c0_1) := (blk_cell BK260.out 1).trans rfl
        have hcz23_2 : w9.cell? ⟨gb260, 2, none⟩ = some (.bool a0_2) := (blk_cell BK260.out 2).trans rfl
        have hcz23_3 : w9.cell? ⟨gb260, 3, none⟩ = some (.int .i64 a0_3) := (blk_cell BK260.out 3).trans rfl
        have hfz23_0 := blk_frozen BK260.out 0
        have hfz23_1 := blk_frozen BK260.out 1
        have hfz23_2 := blk_frozen BK260.out 2
        have hfz23_3 := blk_frozen BK260.out 3
        go_wp2_with (first | ((with_reducible refine gate_callee (f := 33) rfl ?_); refine goesL_ (some 11) rfl rfl Try.func33 (by kernel_rfl) rfl #[.agg #[.int .i64 t262, .slice Ao11 t263.length co11, .bool t266, .int .i64 t267]] rfl (by (try simp only [List.map_toArray, List.map_cons, List.map_nil]); first | done | rfl | (simp only [List.length_drop, List.length_take]; rfl)) ?_; (with_reducible refine (part_Right.calls t262 _ _ t263 t266 t267 false _ ?side1 ?side2 A13.out).mono ?_); (case side1 => refine (Kd.R_reads' (e := 73) (base := w.heap.size) (ok := fun k_ => True) (n := t263.length) (c := co11) ?_).2.2; exact (by (with_reducible repeat (first | apply Kd.R_alloc | apply Kd.R_drewN | apply Kd.R_drew)); exact (Kd.R_mono (Kd.R_far (p := ⟨gb260, 3, none⟩) (Kd.R_far (p := ⟨gb260, 2, none⟩) (Kd.R_far (p := ⟨gb260, 1, none⟩) (Kd.R_far (p := ⟨gb260, 0, none⟩) (Kd.R_types HO265.out BK260.out (by decide)) (fun _ hk => hk.2) (.int .i64 t262)) (fun _ hk => hk.2) (.slice Ao11 t263.length co11)) (fun _ hk => hk.2) (.bool t266)) (fun _ hk => hk.2) (.int .i64 t267)) (fun _ h_ => h_.1)))); (case side2 => exact (Kd.R_reads' HO265.out).2.1); rintro e w24 ⟨rfl, hb⟩; refine ⟨_, rfl, ?_⟩; have n0_ := Aside0.mk (Kd.R_below (by (with_reducible repeat (first | apply Kd.R_alloc | apply Kd.R_drewN | apply Kd.R_drew)); exact (Kd.R_mono (Kd.R_far (p := ⟨gb260, 3, none⟩) (Kd.R_far (p := ⟨gb260, 2, none⟩) (Kd.R_far (p := ⟨gb260, 1, none⟩) (Kd.R_far (p := ⟨gb260, 0, none⟩) (Kd.R_types HO265.out BK260.out (by decide)) (fun _ hk => hk.2) (.int .i64 t262)) (fun _ hk => hk.2) (.slice Ao11 t263.length co11)) (fun _ hk => hk.2) (.bool t266)) (fun _ hk => hk.2) (.int .i64 t267)) (fun _ h_ => h_.1))) hb); have n1_ := Aside0.mk (blk_below (g := gb260) (o := .cells #[.int .i64 t262, .slice Ao11 t263.length co11, .bool t266, .int .i64 t267] 40 (0, 0)) (by (with_reducible repeat (first | refine blk_drewN ?_ _ | refine blk_drew ?_ | refine blk_alloc ?_ _)); refine blk_put (cs := #[.int .i64 t262, .slice Ao11 t263.length co11, .bool t266, .int .i64 a0_3]) ?_ 3 _ rfl; (with_reducible repeat (first | refine blk_drewN ?_ _ | refine blk_drew ?_ | refine blk_alloc ?_ _)); refine blk_put (cs := #[.int .i64 t262, .slice Ao11 t263.length co11, .bool a0_2, .int .i64 a0_3]) ?_ 2 _ rfl; (with_reducible repeat (first | refine blk_drewN ?_ _ | refine blk_drew ?_ | refine blk_alloc ?_ _)); refine blk_put (cs := #[.int .i64 t262, .slice A0_1 l0_1.length c0_1, .bool a0_2, .int .i64 a0_3]) ?_ 1 _ rfl; (with_reducible repeat (first | refine blk_drewN ?_ _ | refine blk_drew ?_ | refine blk_alloc ?_ _)); refine blk_put (cs := #[.int .i64 a0_0, .slice A0_1 l0_1.length c0_1, .bool a0_2, .int .i64 a0_3]) ?_ 0 _ rfl; (with_reducible repeat (first | refine blk_drewN ?_ _ | refine blk_drew ?_ | refine blk_alloc ?_ _)); exact BK260.out) hb); have n2_ := Aside0.mk (blk_below (g := gb261) (o := .cells #[.int .i64 0, .slice none 0 0, .bool false, .int .i64 0] 40 (0, 0)) (by (with_reducible repeat (first | refine blk_drewN ?_ _ | refine blk_drew ?_ | refine blk_alloc ?_ _)); refine blk_far ?_ NB261_260.out _; (with_reducible repeat (first | refine blk_drewN ?_ _ | refine blk_drew ?_ | refine blk_alloc ?_ _)); refine blk_far ?_ NB261_260.out _; (with_reducible repeat (first | refine blk_drewN ?_ _ | refine blk_drew ?_ | refine blk_alloc ?_ _)); refine blk_far ?_ NB261_260.out _; (with_reducible repeat (first | refine blk_drewN ?_ _ | refine blk_drew ?_ | refine blk_alloc ?_ _)); refine blk_far ?_ NB261_260.out _; (with_reducible repeat (first | refine blk_drewN ?_ _ | refine blk_drew ?_ | refine blk_alloc ?_ _)); exact BK261.out) hb); have n3_ := Aside0.mk (below_step (by repeat (first | (with_reducible first | exact HB.out | apply below_alloc | apply pw_below_drewN | apply below_drew1 | refine below_set ?_ GE260.out | refine below_set ?_ GE261.out) | exact HB.out)) hb); clear HO265; clear BK260; clear BK261; clear HB; have HO265 := n0_; have BK260 := n1_; have BK261 := n2_; have HB := n3_; clear n0_ n1_ n2_ n3_; (try clear hb); (try clear hb2); (try clear hk); (try clear hi)))
        go_meet
        case rel => exact ⟨_, (true), (by first | rfl | (simp; done) | (simp [*]; done)), H', ⟨by first | omega | exact Nat.le_refl _⟩, ⟨by (with_reducible repeat (first | apply Kd.R_alloc | apply Kd.R_drewN | apply Kd.R_drew)); exact HO265.out⟩, ⟨by (with_reducible repeat (first | refine blk_drewN ?_ _ | refine blk_drew ?_ | refine blk_alloc ?_ _)); exact BK260.out⟩, ⟨by (with_reducible repeat (first | refine blk_drewN ?_ _ | refine blk_drew ?_ | refine blk_alloc ?_ _)); exact BK261.out⟩, ⟨by repeat (first | (with_reducible first | exact HB.out | apply below_alloc | apply pw_below_drewN | apply below_drew1 | refine below_set ?_ GE260.out | refine below_set ?_ GE261.out) | exact HB.out)⟩⟩
    case rest =>
      clear HC12
      try clear c1
      try clear c2
      try clear p2
      try clear c3
      try clear c5
      try clear c6
      try clear c7
      try clear c14
      try clear c15
      try clear c15b0
      try clear c15b1
      try clear c16
      try clear c19
      try clear c22
      try clear hcz10_0
      try clear hcz10_1
      try clear hcz10_2
      try clear hcz10_3
      try clear hcz17_0
      try clear hcz17_1
      try clear hcz17_2
      try clear hcz17_3
      try clear hcz20_0
      try clear hcz20_1
      try clear hcz20_2
      try clear hcz20_3
      try clear hcz23_0
      try clear hcz23_1
      try clear hcz23_2
      try clear hcz23_3
      try clear hcz8_0
      try clear hcz8_1
      try clear hcz8_2
      try clear hcz8_3
      try clear hfz10_0
      try clear hfz10_1
      try clear hfz10_2
      try clear hfz10_3
      try clear hfz17_0
      try clear hfz17_1
      try clear hfz17_2
      try clear hfz17_3
      try clear hfz20_0
      try clear hfz20_1
      try clear hfz20_2
      try clear hfz20_3
      try clear hfz23_0
      try clear hfz23_1
      try clear hfz23_2
      try clear hfz23_3
      try clear hfz8_0
      try clear hfz8_1
      try clear hfz8_2
      try clear hfz8_3
      obtain ⟨kq, x9_11, rfl, HA, HJ11, HO_261001, BK260, BK261, HB⟩ := hcut
      cases kq with
      | zero => exact absurd HA.out (by simp [part_Decide.j0])
      | succ kj11 =>
        have H := HA.out
        clear HA
        simp only [part_Decide.j0] at H
        by_cases c25 : x9_11 = true
        · subst c25
          have H1 : (some (t262, t263, t266, t267, ([] : List (S73)), 2)) = some (r1, r2, r3, r4, r5, r6) := by rw [if_pos rfl] at H; exact H
          clear H
          have H := H1
          clear H1
          simp only [Option.some.injEq, Prod.mk.injEq] at H
          obtain ⟨rfl, rfl, rfl, rfl, rfl, rfl⟩ := H
          have hnb26 := NB260_261.out
          have hnc26 := NB261_260.out
          have hcz27_0 : wc.cell? ⟨gb260, 0, none⟩ = some (.int .i64 t262) := (blk_cell BK260.out 0).trans rfl
          have hcz27_1 : wc.cell? ⟨gb260, 1, none⟩ = some (.slice Ao11 t263.length co11) := (blk_cell BK260.out 1).trans rfl
          have hcz27_2 : wc.cell? ⟨gb260, 2, none⟩ = some (.bool t266) := (blk_cell BK260.out 2).trans rfl
          have hcz27_3 : wc.cell? ⟨gb260, 3, none⟩ = some (.int .i64 t267) := (blk_cell BK260.out 3).trans rfl
          have hfz27_0 := blk_frozen BK260.out 0
          have hfz27_1 := blk_frozen BK260.out 1
          have hfz27_2 := blk_frozen BK260.out 2
          have hfz27_3 := blk_frozen BK260.out 3
          have hcz28_0 : wc.cell? ⟨gb261, 0, none⟩ = some (.int .i64 0) := (blk_cell BK261.out 0).trans rfl
          have hcz28_1 : wc.cell? ⟨gb261, 1, none⟩ = some (.slice none 0 0) := (blk_cell BK261.out 1).trans rfl
          have hcz28_2 : wc.cell? ⟨gb261, 2, none⟩ = some (.bool false) := (blk_cell BK261.out 2).trans rfl
          have hcz28_3 : wc.cell? ⟨gb261, 3, none⟩ = some (.int .i64 0) := (blk_cell BK261.out 3).trans rfl
          have hfz28_0 := blk_frozen BK261.out 0
          have hfz28_1 := blk_frozen BK261.out 1
          have hfz28_2 := blk_frozen BK261.out 2
          have hfz28_3 := blk_frozen BK261.out 3
          go_wp2
          refine bodyPost_ret (results_ctt rfl _ _ gb261 40 #[.int .i64 t262, .slice Ao11 t263.length co11, .bool t266, .int .i64 t267] (0, 0) _ rfl (by (with_reducible repeat (first | refine blk_drewN ?_ _ | refine blk_drew ?_ | refine blk_alloc ?_ _)); refine blk_put (cs := #[.int .i64 t262, .slice Ao11 t263.length co11, .bool t266, .int .i64 0]) ?_ 3 _ rfl; (with_reducible repeat (first | refine blk_drewN ?_ _ | refine blk_drew ?_ | refine blk_alloc ?_ _)); refine blk_put (cs := #[.int .i64 t262, .slice Ao11 t263.length co11, .bool false, .int .i64 0]) ?_ 2 _ rfl; (with_reducible repeat (first | refine blk_drewN ?_ _ | refine blk_drew ?_ | refine blk_alloc ?_ _)); refine blk_put (cs := #[.int .i64 t262, .slice none 0 0, .bool false, .int .i64 0]) ?_ 1 _ rfl; (with_reducible repeat (first | refine blk_drewN ?_ _ | refine blk_drew ?_ | refine blk_alloc ?_ _)); refine blk_put (cs := #[.int .i64 0, .slice none 0 0, .bool false, .int .i64 0]) ?_ 0 _ rfl; (with_reducible repeat (first | refine blk_drewN ?_ _ | refine blk_drew ?_ | refine blk_alloc ?_ _)); exact BK261.out) Try.underlying40 rfl (by kernel_rfl)) rfl ?_
          exact ⟨_, _, by first | rfl | (simp [errW_none, errW_some] <;> rfl) | (simp [*, errW_none, errW_some] <;> rfl), by (with_reducible repeat (first | apply Kd.R_alloc | apply Kd.R_drewN | apply Kd.R_drew)); exact Kd.R_mono (Kd.R_far (p := ⟨gb261, 3, none⟩) (Kd.R_far (p := ⟨gb261, 2, none⟩) (Kd.R_far (p := ⟨gb261, 1, none⟩) (Kd.R_far (p := ⟨gb261, 0, none⟩) (Kd.R_types HO_261001.out BK261.out (by decide)) (fun _ hk => hk.2) (.int .i64 t262)) (fun _ hk => hk.2) (.slice Ao11 t263.length co11)) (fun _ hk => hk.2) (.bool t266)) (fun _ hk => hk.2) (.int .i64 t267)) (fun _ hk => (by simp [Value.ownBlock])), by first | exact Kd.R_nil _ _ _ _ _ | exact Kd.N_nil _ _ _ _ _ | exact Kd.V_nil _ _ _ _ _ | exact Kd.Q_nil _ _ _ _ _ | exact Kd.S_nil _ _ _ _ _, by repeat (first | (with_reducible first | exact HB.out | apply below_alloc | apply pw_below_drewN | apply below_drew1 | refine below_set ?_ GE260.out | refine below_set ?_ GE261.out) | exact HB.out)⟩
        · replace c25 := Bool.eq_false_iff.mpr c25
          subst c25
          have H1 : (if t267 = a1 then (some (t262, t263, t266, t267, ([] : List (S73)), 0)) else (if t262 = 3 then (some (t262, t263, t266, t267, ([] : List (S73)), 13)) else (if a1 = 1 then (if t262 = 1 then (part_Decide.j1 kj11 a1 t262 t263 t266 t267) else (some (t262, t263, t266, t267, ([] : List (S73)), 13))) else (part_Decide.j1 kj11 a1 t262 t263 t266 t267)))) = some (r1, r2, r3, r4, r5, r6) := by rw [if_neg (show ¬ (false = true) by decide)] at H; exact H
          clear H
          have H := H1
          clear H1
          by_cases c29 : t267 = a1
          · rw [if_pos c29] at H
            have c29b0 : (t267 == a1) = true := beq_iff_eq.mpr c29
            have c29b1 : (t267 != a1) = false := bne_eq_false_iff_eq.mpr c29
            clear c29
            simp only [Option.some.injEq, Prod.mk.injEq] at H
            obtain ⟨rfl, rfl, rfl, rfl, rfl, rfl⟩ := H
            have hnb30 := NB260_261.out
            have hnc30 := NB261_260.out
            have hcz31_0 : wc.cell? ⟨gb260, 0, none⟩ = some (.int .i64 t262) := (blk_cell BK260.out 0).trans rfl
            have hcz31_1 : wc.cell? ⟨gb260, 1, none⟩ = some (.slice Ao11 t263.length co11) := (blk_cell BK260.out 1).trans rfl
            have hcz31_2 : wc.cell? ⟨gb260, 2, none⟩ = some (.bool t266) := (blk_cell BK260.out 2).trans rfl
            have hcz31_3 : wc.cell? ⟨gb260, 3, none⟩ = some (.int .i64 t267) := (blk_cell BK260.out 3).trans rfl
            have hfz31_0 := blk_frozen BK260.out 0
            have hfz31_1 := blk_frozen BK260.out 1
            have hfz31_2 := blk_frozen BK260.out 2
            have hfz31_3 := blk_frozen BK260.out 3
            have hcz32_0 : wc.cell? ⟨gb261, 0, none⟩ = some (.int .i64 0) := (blk_cell BK261.out 0).trans rfl
            have hcz32_1 : wc.cell? ⟨gb261, 1, none⟩ = some (.slice none 0 0) := (blk_cell BK261.out 1).trans rfl
            have hcz32_2 : wc.cell? ⟨gb261, 2, none⟩ = some (.bool false) := (blk_cell BK261.out 2).trans rfl
            have hcz32_3 : wc.cell? ⟨gb261, 3, none⟩ = some (.int .i64 0) := (blk_cell BK261.out 3).trans rfl
            have hfz32_0 := blk_frozen BK261.out 0
            have hfz32_1 := blk_frozen BK261.out 1
            have hfz32_2 := blk_frozen BK261.out 2
            have hfz32_3 := blk_frozen BK261.out 3
            go_wp2
            refine bodyPost_ret (results_ctt rfl _ _ gb261 40 #[.int .i64 t262, .slice Ao11 t263.length co11, .bool t266, .int .i64 t267] (0, 0) _ rfl (by (with_reducible repeat (first | refine blk_drewN ?_ _ | refine blk_drew ?_ | refine blk_alloc ?_ _)); refine blk_put (cs := #[.int .i64 t262, .slice Ao11 t263.length co11, .bool t266, .int .i64 0]) ?_ 3 _ rfl; (with_reducible repeat (first | refine blk_drewN ?_ _ | refine blk_drew ?_ | refine blk_alloc ?_ _)); refine blk_put (cs := #[.int .i64 t262, .slice Ao11 t263.length co11, .bool false, .int .i64 0]) ?_ 2 _ rfl; (with_reducible repeat (first | refine blk_drewN ?_ _ | refine blk_drew ?_ | refine blk_alloc ?_ _)); refine blk_put (cs := #[.int .i64 t262, .slice none 0 0, .bool false, .int .i64 0]) ?_ 1 _ rfl; (with_reducible repeat (first | refine blk_drewN ?_ _ | refine blk_drew ?_ | refine blk_alloc ?_ _)); refine blk_put (cs := #[.int .i64 0, .slice none 0 0, .bool false, .int .i64 0]) ?_ 0 _ rfl; (with_reducible repeat (first | refine blk_drewN ?_ _ | refine blk_drew ?_ | refine blk_alloc ?_ _)); exact BK261.out) Try.underlying40 rfl (by kernel_rfl)) rfl ?_
            exact ⟨_, _, by first | rfl | (simp [errW_none, errW_some] <;> rfl) | (simp [*, errW_none, errW_some] <;> rfl), by (with_reducible repeat (first | apply Kd.R_alloc | apply Kd.R_drewN | apply Kd.R_drew)); exact Kd.R_mono (Kd.R_far (p := ⟨gb261, 3, none⟩) (Kd.R_far (p := ⟨gb261, 2, none⟩) (Kd.R_far (p := ⟨gb261, 1, none⟩) (Kd.R_far (p := ⟨gb261, 0, none⟩) (Kd.R_types HO_261001.out BK261.out (by decide)) (fun _ hk => hk.2) (.int .i64 t262)) (fun _ hk => hk.2) (.slice Ao11 t263.length co11)) (fun _ hk => hk.2) (.bool t266)) (fun _ hk => hk.2) (.int .i64 t267)) (fun _ hk => (by simp [Value.ownBlock])), by first | exact Kd.R_nil _ _ _ _ _ | exact Kd.N_nil _ _ _ _ _ | exact Kd.V_nil _ _ _ _ _ | exact Kd.Q_nil _ _ _ _ _ | exact Kd.S_nil _ _ _ _ _, by repeat (first | (with_reducible first | exact HB.out | apply below_alloc | apply pw_below_drewN | apply below_drew1 | refine below_set ?_ GE260.out | refine below_set ?_ GE261.out) | exact HB.out)⟩
          · rw [if_neg c29] at H
            have c29b0 : (t267 == a1) = false := beq_eq_false_iff_ne.mpr c29
            have c29b1 : (t267 != a1) = true := bne_iff_ne.mpr c29
            by_cases c33 : t262 = 3
            · rw [if_pos c33] at H
              have c33b0 : (t262 == 3) = true := beq_iff_eq.mpr c33
              have c33b1 : (t262 != 3) = false := bne_eq_false_iff_eq.mpr c33
              clear c33
              simp only [Option.some.injEq, Prod.mk.injEq] at H
              obtain ⟨rfl, rfl, rfl, rfl, rfl, rfl⟩ := H
              have hnb34 := NB260_261.out
              have hnc34 := NB261_260.out
              have hcz35_0 : wc.cell? ⟨gb260, 0, none⟩ = some (.int .i64 t262) := (blk_cell BK260.out 0).trans rfl
              have hcz35_1 : wc.cell? ⟨gb260, 1, none⟩ = some (.slice Ao11 t263.length co11) := (blk_cell BK260.out 1).trans rfl
              have hcz35_2 : wc.cell? ⟨gb260, 2, none⟩ = some (.bool t266) := (blk_cell BK260.out 2).trans rfl
              have hcz35_3 : wc.cell? ⟨gb260, 3, none⟩ = some (.int .i64 t267) := (blk_cell BK260.out 3).trans rfl
              have hfz35_0 := blk_frozen BK260.out 0
              have hfz35_1 := blk_frozen BK260.out 1
              have hfz35_2 := blk_frozen BK260.out 2
              have hfz35_3 := blk_frozen BK260.out 3
              have hcz36_0 : wc.cell? ⟨gb261, 0, none⟩ = some (.int .i64 0) := (blk_cell BK261.out 0).trans rfl
              have hcz36_1 : wc.cell? ⟨gb261, 1, none⟩ = some (.slice none 0 0) := (blk_cell BK261.out 1).trans rfl
              have hcz36_2 : wc.cell? ⟨gb261, 2, none⟩ = some (.bool false) := (blk_cell BK261.out 2).trans rfl
              have hcz36_3 : wc.cell? ⟨gb261, 3, none⟩ = some (.int .i64 0) := (blk_cell BK261.out 3).trans rfl
              have hfz36_0 := blk_frozen BK261.out 0
              have hfz36_1 := blk_frozen BK261.out 1
              have hfz36_2 := blk_frozen BK261.out 2
              have hfz36_3 := blk_frozen BK261.out 3
              go_wp2
              refine bodyPost_ret (results_ctt rfl _ _ gb261 40 #[.int .i64 t262, .slice Ao11 t263.length co11, .bool t266, .int .i64 t267] (0, 0) _ rfl (by (with_reducible repeat (first | refine blk_drewN ?_ _ | refine blk_drew ?_ | refine blk_alloc ?_ _)); refine blk_put (cs := #[.int .i64 t262, .slice Ao11 t263.length co11, .bool t266, .int .i64 0]) ?_ 3 _ rfl; (with_reducible repeat (first | refine blk_drewN ?_ _ | refine blk_drew ?_ | refine blk_alloc ?_ _)); refine blk_put (cs := #[.int .i64 t262, .slice Ao11 t263.length co11, .bool false, .int .i64 0]) ?_ 2 _ rfl; (with_reducible repeat (first | refine blk_drewN ?_ _ | refine blk_drew ?_ | refine blk_alloc ?_ _)); refine blk_put (cs := #[.int .i64 t262, .slice none 0 0, .bool false, .int .i64 0]) ?_ 1 _ rfl; (with_reducible repeat (first | refine blk_drewN ?_ _ | refine blk_drew ?_ | refine blk_alloc ?_ _)); refine blk_put (cs := #[.int .i64 0, .slice none 0 0, .bool false, .int .i64 0]) ?_ 0 _ rfl; (with_reducible repeat (first | refine blk_drewN ?_ _ | refine blk_drew ?_ | refine blk_alloc ?_ _)); exact BK261.out) Try.underlying40 rfl (by kernel_rfl)) rfl ?_
              exact ⟨_, _, by first | rfl | (simp [errW_none, errW_some] <;> rfl) | (simp [*, errW_none, errW_some] <;> rfl), by (with_reducible repeat (first | apply Kd.R_alloc | apply Kd.R_drewN | apply Kd.R_drew)); exact Kd.R_mono (Kd.R_far (p := ⟨gb261, 3, none⟩) (Kd.R_far (p := ⟨gb261, 2, none⟩) (Kd.R_far (p := ⟨gb261, 1, none⟩) (Kd.R_far (p := ⟨gb261, 0, none⟩) (Kd.R_types HO_261001.out BK261.out (by decide)) (fun _ hk => hk.2) (.int .i64 t262)) (fun _ hk => hk.2) (.slice Ao11 t263.length co11)) (fun _ hk => hk.2) (.bool t266)) (fun _ hk => hk.2) (.int .i64 t267)) (fun _ hk => (by simp [Value.ownBlock])), by first | exact Kd.R_nil _ _ _ _ _ | exact Kd.N_nil _ _ _ _ _ | exact Kd.V_nil _ _ _ _ _ | exact Kd.Q_nil _ _ _ _ _ | exact Kd.S_nil _ _ _ _ _, by repeat (first | (with_reducible first | exact HB.out | apply below_alloc | apply pw_below_drewN | apply below_drew1 | refine below_set ?_ GE260.out | refine below_set ?_ GE261.out) | exact HB.out)⟩
            · rw [if_neg c33] at H
              have c33b0 : (t262 == 3) = false := beq_eq_false_iff_ne.mpr c33
              have c33b1 : (t262 != 3) = true := bne_iff_ne.mpr c33
              by_cases c37 : a1 = 1
              · rw [if_pos c37] at H
                have c37b0 : (a1 == 1) = true := beq_iff_eq.mpr c37
                have c37b1 : (a1 != 1) = false := bne_eq_false_iff_eq.mpr c37
                clear c37
                by_cases c38 : t262 = 1
                · rw [if_pos c38] at H
                  have c38b0 : (t262 == 1) = true := beq_iff_eq.mpr c38
                  have c38b1 : (t262 != 1) = false := bne_eq_false_iff_eq.mpr c38
                  clear c38
                  have H' := Aside0.mk H
                  clear H
                  have hnb39 := NB260_261.out
                  have hnc39 := NB261_260.out
                  have hcz40_0 : wc.cell? ⟨gb260, 0, none⟩ = some (.int .i64 t262) := (blk_cell BK260.out 0).trans rfl
                  have hcz40_1 : wc.cell? ⟨gb260, 1, none⟩ = some (.slice Ao11 t263.length co11) := (blk_cell BK260.out 1).trans rfl
                  have hcz40_2 : wc.cell? ⟨gb260, 2, none⟩ = some (.bool t266) := (blk_cell BK260.out 2).trans rfl
                  have hcz40_3 : wc.cell? ⟨gb260, 3, none⟩ = some (.int .i64 t267) := (blk_cell BK260.out 3).trans rfl
                  have hfz40_0 := blk_frozen BK260.out 0
                  have hfz40_1 := blk_frozen BK260.out 1
                  have hfz40_2 := blk_frozen BK260.out 2
                  have hfz40_3 := blk_frozen BK260.out 3
                  go_wp2
                  go_meet
                  case rel => exact ⟨_, (0), (false), (0), H', ⟨by have := HJ11.out; first | omega | exact Nat.le_refl _⟩, ⟨by (with_reducible repeat (first | apply Kd.R_alloc | apply Kd.R_drewN | apply Kd.R_drew)); exact HO_261001.out⟩, ⟨by (with_reducible repeat (first | refine blk_drewN ?_ _ | refine blk_drew ?_ | refine blk_alloc ?_ _)); exact BK260.out⟩, ⟨by (with_reducible repeat (first | refine blk_drewN ?_ _ | refine blk_drew ?_ | refine blk_alloc ?_ _)); exact BK261.out⟩, ⟨by repeat (first | (with_reducible first | exact HB.out | apply below_alloc | apply pw_below_drewN | apply below_drew1 | refine below_set ?_ GE260.out | refine below_set ?_ GE261.out) | exact HB.out)⟩⟩
                · rw [if_neg c38] at H
                  have c38b0 : (t262 == 1) = false := beq_eq_false_iff_ne.mpr c38
                  have c38b1 : (t262 != 1) = true := bne_iff_ne.mpr c38
                  simp only [Option.some.injEq, Prod.mk.injEq] at H
                  obtain ⟨rfl, rfl, rfl, rfl, rfl, rfl⟩ := H
                  have hnb41 := NB260_261.out
                  have hnc41 := NB261_260.out
                  have hcz42_0 : wc.cell? ⟨gb260, 0, none⟩ = some (.int .i64 t262) := (blk_cell BK260.out 0).trans rfl
                  have hcz42_1 : wc.cell? ⟨gb260, 1, none⟩ = some (.slice Ao11 t263.length co11) := (blk_cell BK260.out 1).trans rfl
                  have hcz42_2 : wc.cell? ⟨gb260, 2, none⟩ = some (.bool t266) := (blk_cell BK260.out 2).trans rfl
                  have hcz42_3 : wc.cell? ⟨gb260, 3, none⟩ = some (.int .i64 t267) := (blk_cell BK260.out 3).trans rfl
                  have hfz42_0 := blk_frozen BK260.out 0
                  have hfz42_1 := blk_frozen BK260.out 1
                  have hfz42_2 := blk_frozen BK260.out 2
                  have hfz42_3 := blk_frozen BK260.out 3
                  have hcz43_0 : wc.cell? ⟨gb261, 0, none⟩ = some (.int .i64 0) := (blk_cell BK261.out 0).trans rfl
                  have hcz43_1 : wc.cell? ⟨gb261, 1, none⟩ = some (.slice none 0 0) := (blk_cell BK261.out 1).trans rfl
                  have hcz43_2 : wc.cell? ⟨gb261, 2, none⟩ = some (.bool false) := (blk_cell BK261.out 2).trans rfl
                  have hcz43_3 : wc.cell? ⟨gb261, 3, none⟩ = some (.int .i64 0) := (blk_cell BK261.out 3).trans rfl
                  have hfz43_0 := blk_frozen BK261.out 0
                  have hfz43_1 := blk_frozen BK261.out 1
                  have hfz43_2 := blk_frozen BK261.out 2
                  have hfz43_3 := blk_frozen BK261.out 3
                  go_wp2
                  refine bodyPost_ret (results_ctt rfl _ _ gb261 40 #[.int .i64 t262, .slice Ao11 t263.length co11, .bool t266, .int .i64 t267] (0, 0) _ rfl (by (with_reducible repeat (first | refine blk_drewN ?_ _ | refine blk_drew ?_ | refine blk_alloc ?_ _)); refine blk_put (cs := #[.int .i64 t262, .slice Ao11 t263.length co11, .bool t266, .int .i64 0]) ?_ 3 _ rfl; (with_reducible repeat (first | refine blk_drewN ?_ _ | refine blk_drew ?_ | refine blk_alloc ?_ _)); refine blk_put (cs := #[.int .i64 t262, .slice Ao11 t263.length co11, .bool false, .int .i64 0]) ?_ 2 _ rfl; (with_reducible repeat (first | refine blk_drewN ?_ _ | refine blk_drew ?_ | refine blk_alloc ?_ _)); refine blk_put (cs := #[.int .i64 t262, .slice none 0 0, .bool false, .int .i64 0]) ?_ 1 _ rfl; (with_reducible repeat (first | refine blk_drewN ?_ _ | refine blk_drew ?_ | refine blk_alloc ?_ _)); refine blk_put (cs := #[.int .i64 0, .slice none 0 0, .bool false, .int .i64 0]) ?_ 0 _ rfl; (with_reducible repeat (first | refine blk_drewN ?_ _ | refine blk_drew ?_ | refine blk_alloc ?_ _)); exact BK261.out) Try.underlying40 rfl (by kernel_rfl)) rfl ?_
                  exact ⟨_, _, by first | rfl | (simp [errW_none, errW_some] <;> rfl) | (simp [*, errW_none, errW_some] <;> rfl), by (with_reducible repeat (first | apply Kd.R_alloc | apply Kd.R_drewN | apply Kd.R_drew)); exact Kd.R_mono (Kd.R_far (p := ⟨gb261, 3, none⟩) (Kd.R_far (p := ⟨gb261, 2, none⟩) (Kd.R_far (p := ⟨gb261, 1, none⟩) (Kd.R_far (p := ⟨gb261, 0, none⟩) (Kd.R_types HO_261001.out BK261.out (by decide)) (fun _ hk => hk.2) (.int .i64 t262)) (fun _ hk => hk.2) (.slice Ao11 t263.length co11)) (fun _ hk => hk.2) (.bool t266)) (fun _ hk => hk.2) (.int .i64 t267)) (fun _ hk => (by simp [Value.ownBlock])), by first | exact Kd.R_nil _ _ _ _ _ | exact Kd.N_nil _ _ _ _ _ | exact Kd.V_nil _ _ _ _ _ | exact Kd.Q_nil _ _ _ _ _ | exact Kd.S_nil _ _ _ _ _, by repeat (first | (with_reducible first | exact HB.out | apply below_alloc | apply pw_below_drewN | apply below_drew1 | refine below_set ?_ GE260.out | refine below_set ?_ GE261.out) | exact HB.out)⟩
              · rw [if_neg c37] at H
                have c37b0 : (a1 == 1) = false := beq_eq_false_iff_ne.mpr c37
                have c37b1 : (a1 != 1) = true := bne_iff_ne.mpr c37
                have H' := Aside0.mk H
                clear H
                have hnb44 := NB260_261.out
                have hnc44 := NB261_260.out
                have hcz45_0 : wc.cell? ⟨gb260, 0, none⟩ = some (.int .i64 t262) := (blk_cell BK260.out 0).trans rfl
                have hcz45_1 : wc.cell? ⟨gb260, 1, none⟩ = some (.slice Ao11 t263.length co11) := (blk_cell BK260.out 1).trans rfl
                have hcz45_2 : wc.cell? ⟨gb260, 2, none⟩ = some (.bool t266) := (blk_cell BK260.out 2).trans rfl
                have hcz45_3 : wc.cell? ⟨gb260, 3, none⟩ = some (.int .i64 t267) := (blk_cell BK260.out 3).trans rfl
                have hfz45_0 := blk_frozen BK260.out 0
                have hfz45_1 := blk_frozen BK260.out 1
                have hfz45_2 := blk_frozen BK260.out 2
                have hfz45_3 := blk_frozen BK260.out 3
                go_wp2
                go_meet
                case rel => exact ⟨_, (0), (false), (0), H', ⟨by have := HJ11.out; first | omega | exact Nat.le_refl _⟩, ⟨by (with_reducible repeat (first | apply Kd.R_alloc | apply Kd.R_drewN | apply Kd.R_drew)); exact HO_261001.out⟩, ⟨by (with_reducible repeat (first | refine blk_drewN ?_ _ | refine blk_drew ?_ | refine blk_alloc ?_ _)); exact BK260.out⟩, ⟨by (with_reducible repeat (first | refine blk_drewN ?_ _ | refine blk_drew ?_ | refine blk_alloc ?_ _)); exact BK261.out⟩, ⟨by repeat (first | (with_reducible first | exact HB.out | apply below_alloc | apply pw_below_drewN | apply below_drew1 | refine below_set ?_ GE260.out | refine below_set ?_ GE261.out) | exact HB.out)⟩⟩
  case rest =>
    clear HC4
    try clear c1
    try clear c2
    try clear p2
    try clear c3
    try clear c4
    try clear c5
    try clear c6
    try clear c7
    try clear c14
    try clear c15
    try clear c15b0
    try clear c15b1
    try clear c16
    try clear c19
    try clear c22
    try clear c25
    try clear c26
    try clear c29
    try clear c29b0
    try clear c29b1
    try clear c30
    try clear c33
    try clear c33b0
    try clear c33b1
    try clear c34
    try clear c37
    try clear c37b0
    try clear c37b1
    try clear c38
    try clear c38b0
    try clear c38b1
    try clear c39
    try clear c41
    try clear c44
    try clear hcz10_0
    try clear hcz10_1
    try clear hcz10_2
    try clear hcz10_3
    try clear hcz17_0
    try clear hcz17_1
    try clear hcz17_2
    try clear hcz17_3
    try clear hcz20_0
    try clear hcz20_1
    try clear hcz20_2
    try clear hcz20_3
    try clear hcz23_0
    try clear hcz23_1
    try clear hcz23_2
    try clear hcz23_3
    try clear hcz27_0
    try clear hcz27_1
    try clear hcz27_2
    try clear hcz27_3
    try clear hcz28_0
    try clear hcz28_1
    try clear hcz28_2
    try clear hcz28_3
    try clear hcz31_0
    try clear hcz31_1
    try clear hcz31_2
    try clear hcz31_3
    try clear hcz32_0
    try clear hcz32_1
    try clear hcz32_2
    try clear hcz32_3
    try clear hcz35_0
    try clear hcz35_1
    try clear hcz35_2
    try clear hcz35_3
    try clear hcz36_0
    try clear hcz36_1
    try clear hcz36_2
    try clear hcz36_3
    try clear hcz40_0
    try clear hcz40_1
    try clear hcz40_2
    try clear hcz40_3
    try clear hcz42_0
    try clear hcz42_1
    try clear hcz42_2
    try clear hcz42_3
    try clear hcz43_0
    try clear hcz43_1
    try clear hcz43_2
    try clear hcz43_3
    try clear hcz45_0
    try clear hcz45_1
    try clear hcz45_2
    try clear hcz45_3
    try clear hcz8_0
    try clear hcz8_1
    try clear hcz8_2
    try clear hcz8_3
    try clear hfz10_0
    try clear hfz10_1
    try clear hfz10_2
    try clear hfz10_3
    try clear hfz17_0
    try clear hfz17_1
    try clear hfz17_2
    try clear hfz17_3
    try clear hfz20_0
    try clear hfz20_1
    try clear hfz20_2
    try clear hfz20_3
    try clear hfz23_0
    try clear hfz23_1
    try clear hfz23_2
    try clear hfz23_3
    try clear hfz27_0
    try clear hfz27_1
    try clear hfz27_2
    try clear hfz27_3
    try clear hfz28_0
    try clear hfz28_1
    try clear hfz28_2
    try clear hfz28_3
    try clear hfz31_0
    try clear hfz31_1
    try clear hfz31_2
    try clear hfz31_3
    try clear hfz32_0
    try clear hfz32_1
    try clear hfz32_2
    try clear hfz32_3
    try clear hfz35_0
    try clear hfz35_1
    try clear hfz35_2
    try clear hfz35_3
    try clear hfz36_0
    try clear hfz36_1
    try clear hfz36_2
    try clear hfz36_3
    try clear hfz40_0
    try clear hfz40_1
    try clear hfz40_2
    try clear hfz40_3
    try clear hfz42_0
    try clear hfz42_1
    try clear hfz42_2
    try clear hfz42_3
    try clear hfz43_0
    try clear hfz43_1
    try clear hfz43_2
    try clear hfz43_3
    try clear hfz45_0
    try clear hfz45_1
    try clear hfz45_2
    try clear hfz45_3
    try clear hfz8_0
    try clear hfz8_1
    try clear hfz8_2
    try clear hfz8_3
    try clear p2
    obtain ⟨kq, x262000_3, x262002_3, x262003_3, HA, HJ3, HO_261001, BK260, BK261, HB⟩ := hcut
    cases kq with
    | zero => exact absurd HA.out (by simp [part_Decide.j1])
    | succ kj3 =>
      have H := HA.out
      clear HA
      simp only [part_Decide.j1] at H
      by_cases c46 : ((a1 == 1) == t266) = true
      · rw [if_pos c46] at H
        have c46b0 : ((a1 == 1) == t266) = true := c46
        (try (have c46b1 : decide ((a1 == 1) = t266) = true := by simpa using c46))
        (try (have c46b2 : ((a1 == 1) == t266) = true := by simpa using c46))
        clear c46
        simp only [Option.some.injEq, Prod.mk.injEq] at H
        obtain ⟨rfl, rfl, rfl, rfl, rfl, rfl⟩ := H
        have hnb47 := NB260_261.out
        have hnc47 := NB261_260.out
        have hcz48_0 : wc.cell? ⟨gb260, 0, none⟩ = some (.int .i64 t262) := (blk_cell BK260.out 0).trans rfl
        have hcz48_1 : wc.cell? ⟨gb260, 1, none⟩ = some (.slice Ao11 t263.length co11) := (blk_cell BK260.out 1).trans rfl
        have hcz48_2 : wc.cell? ⟨gb260, 2, none⟩ = some (.bool t266) := (blk_cell BK260.out 2).trans rfl
        have hcz48_3 : wc.cell? ⟨gb260, 3, none⟩ = some (.int .i64 t267) := (blk_cell BK260.out 3).trans rfl
        have hfz48_0 := blk_frozen BK260.out 0
        have hfz48_1 := blk_frozen BK260.out 1
        have hfz48_2 := blk_frozen BK260.out 2
        have hfz48_3 := blk_frozen BK260.out 3
        have hcz49_0 : wc.cell? ⟨gb261, 0, none⟩ = some (.int .i64 x262000_3) := (blk_cell BK261.out 0).trans rfl
        have hcz49_1 : wc.cell? ⟨gb261, 1, none⟩ = some (.slice none 0 0) := (blk_cell BK261.out 1).trans rfl
        have hcz49_2 : wc.cell? ⟨gb261, 2, none⟩ = some (.bool x262002_3) := (blk_cell BK261.out 2).trans rfl
        have hcz49_3 : wc.cell? ⟨gb261, 3, none⟩ = some (.int .i64 x262003_3) := (blk_cell BK261.out 3).trans rfl
        have hfz49_0 := blk_frozen BK261.out 0
        have hfz49_1 := blk_frozen BK261.out 1
        have hfz49_2 := blk_frozen BK261.out 2
        have hfz49_3 := blk_frozen BK261.out 3
        go_wp2
        refine bodyPost_ret (results_ctt rfl _ _ gb261 40 #[.int .i64 3, .slice Ao11 t263.length co11, .bool t266, .int .i64 a1] (0, 0) _ rfl (by (with_reducible repeat (first | refine blk_drewN ?_ _ | refine blk_drew ?_ | refine blk_alloc ?_ _)); refine blk_put (cs := #[.int .i64 3, .slice Ao11 t263.length co11, .bool t266, .int .i64 x262003_3]) ?_ 3 _ rfl; (with_reducible repeat (first | refine blk_drewN ?_ _ | refine blk_drew ?_ | refine blk_alloc ?_ _)); refine blk_put (cs := #[.int .i64 3, .slice Ao11 t263.length co11, .bool x262002_3, .int .i64 x262003_3]) ?_ 2 _ rfl; (with_reducible repeat (first | refine blk_drewN ?_ _ | refine blk_drew ?_ | refine blk_alloc ?_ _)); refine blk_put (cs := #[.int .i64 3, .slice none 0 0, .bool x262002_3, .int .i64 x262003_3]) ?_ 1 _ rfl; (with_reducible repeat (first | refine blk_drewN ?_ _ | refine blk_drew ?_ | refine blk_alloc ?_ _)); refine blk_put (cs := #[.int .i64 x262000_3, .slice none 0 0, .bool x262002_3, .int .i64 x262003_3]) ?_ 0 _ rfl; (with_reducible repeat (first | refine blk_drewN ?_ _ | refine blk_drew ?_ | refine blk_alloc ?_ _)); refine blk_far ?_ NB261_260.out _; (with_reducible repeat (first | refine blk_drewN ?_ _ | refine blk_drew ?_ | refine blk_alloc ?_ _)); refine blk_far ?_ NB261_260.out _; (with_reducible repeat (first | refine blk_drewN ?_ _ | refine blk_drew ?_ | refine blk_alloc ?_ _)); exact BK261.out) Try.underlying40 rfl (by kernel_rfl)) rfl ?_
        exact ⟨_, _, by first | rfl | (simp [errW_none, errW_some] <;> rfl) | (simp [*, errW_none, errW_some] <;> rfl), by (with_reducible repeat (first | apply Kd.R_alloc | apply Kd.R_drewN | apply Kd.R_drew)); exact Kd.R_mono (Kd.R_far (p := ⟨gb261, 3, none⟩) (Kd.R_far (p := ⟨gb261, 2, none⟩) (Kd.R_far (p := ⟨gb261, 1, none⟩) (Kd.R_far (p := ⟨gb261, 0, none⟩) (Kd.R_far (p := ⟨gb260, 3, none⟩) (Kd.R_far (p := ⟨gb260, 0, none⟩) (Kd.R_types (Kd.R_types HO_261001.out BK260.out (by decide)) BK261.out (by decide)) (fun _ hk => hk.1.2) (.int .i64 3)) (fun _ hk => hk.1.2) (.int .i64 a1)) (fun _ hk => hk.2) (.int .i64 3)) (fun _ hk => hk.2) (.slice Ao11 t263.length co11)) (fun _ hk => hk.2) (.bool t266)) (fun _ hk => hk.2) (.int .i64 a1)) (fun _ hk => (by simp [Value.ownBlock])), by first | exact Kd.R_nil _ _ _ _ _ | exact Kd.N_nil _ _ _ _ _ | exact Kd.V_nil _ _ _ _ _ | exact Kd.Q_nil _ _ _ _ _ | exact Kd.S_nil _ _ _ _ _, by repeat (first | (with_reducible first | exact HB.out | apply below_alloc | apply pw_below_drewN | apply below_drew1 | refine below_set ?_ GE260.out | refine below_set ?_ GE261.out) | exact HB.out)⟩
      · rw [if_neg c46] at H
        have c46b0 : ((a1 == 1) == t266) = false := by simpa using c46
        (try (have c46b1 : decide ((a1 == 1) = t266) = false := by simpa using c46))
        (try (have c46b2 : ((a1 == 1) == t266) = false := by simpa using c46))
        (try (have c46b3 : ¬ ((a1 == 1) = t266) := by simpa using c46))
        clear c46
        by_cases c50 : t266 = true
        · subst c50
          have H1 : ((part_opposites.f t263).bind fun t269 => (some (3, t263, true, a1, t269, 0))) = some (r1, r2, r3, r4, r5, r6) := by rw [if_pos rfl] at H; exact H
          clear H
          have H := H1
          clear H1
          replace H := Option.bind_eq_some_iff.mp H
          obtain ⟨t269, A510, H⟩ := H
          replace H : (some (3, t263, true, a1, t269, 0)) = some (r1, r2, r3, r4, r5, r6) := H
          have A51 := Aside0.mk A510
          clear A510
          simp only [Option.some.injEq, Prod.mk.injEq] at H
          obtain ⟨rfl, rfl, rfl, rfl, rfl, rfl⟩ := H
          have hnb52 := NB260_261.out
          have hnc52 := NB261_260.out
          have hcz53_0 : wc.cell? ⟨gb260, 0, none⟩ = some (.int .i64 t262) := (blk_cell BK260.out 0).trans rfl
          have hcz53_1 : wc.cell? ⟨gb260, 1, none⟩ = some (.slice Ao11 t263.length co11) := (blk_cell BK260.out 1).trans rfl
          have hcz53_2 : wc.cell? ⟨gb260, 2, none⟩ = some (.bool true) := (blk_cell BK260.out 2).trans rfl
          have hcz53_3 : wc.cell? ⟨gb260, 3, none⟩ = some (.int .i64 t267) := (blk_cell BK260.out 3).trans rfl
          have hfz53_0 := blk_frozen BK260.out 0
          have hfz53_1 := blk_frozen BK260.out 1
          have hfz53_2 := blk_frozen BK260.out 2
          have hfz53_3 := blk_frozen BK260.out 3
          try go_wp2
          have n0_ : Aside0 (Kd.R k73 73 ((wc.setCell ⟨gb260, 0, none⟩ (.int .i64 3)).setCell ⟨gb260, 3, none⟩ (.int .i64 a1)) w.heap.size (fun _ => True) (.slice Ao11 t263.length co11) t263) := ⟨by (with_reducible repeat (first | apply Kd.R_alloc | apply Kd.R_drewN | apply Kd.R_drew)); exact Kd.R_mono (Kd.R_far (p := ⟨gb260, 3, none⟩) (Kd.R_far (p := ⟨gb260, 0, none⟩) (Kd.R_types HO_261001.out BK260.out (by decide)) (fun _ hk => hk.2) (.int .i64 3)) (fun _ hk => hk.2) (.int .i64 a1)) (fun _ hk => trivial)⟩
          have n1_ : Aside0 (((wc.setCell ⟨gb260, 0, none⟩ (.int .i64 3)).setCell ⟨gb260, 3, none⟩ (.int .i64 a1)).heap[gb260]? = some (.cells #[.int .i64 3, .slice Ao11 t263.length co11, .bool true, .int .i64 a1] 40 (0, 0))) := ⟨by (with_reducible repeat (first | refine blk_drewN ?_ _ | refine blk_drew ?_ | refine blk_alloc ?_ _)); refine blk_put (cs := #[.int .i64 3, .slice Ao11 t263.length co11, .bool true, .int .i64 t267]) ?_ 3 _ rfl; (with_reducible repeat (first | refine blk_drewN ?_ _ | refine blk_drew ?_ | refine blk_alloc ?_ _)); refine blk_put (cs := #[.int .i64 t262, .slice Ao11 t263.length co11, .bool true, .int .i64 t267]) ?_ 0 _ rfl; (with_reducible repeat (first | refine blk_drewN ?_ _ | refine blk_drew ?_ | refine blk_alloc ?_ _)); exact BK260.out⟩
          have n2_ : Aside0 (((wc.setCell ⟨gb260, 0, none⟩ (.int .i64 3)).setCell ⟨gb260, 3, none⟩ (.int .i64 a1)).heap[gb261]? = some (.cells #[.int .i64 x262000_3, .slice none 0 0, .bool x262002_3, .int .i64 x262003_3] 40 (0, 0))) := ⟨by (with_reducible repeat (first | refine blk_drewN ?_ _ | refine blk_drew ?_ | refine blk_alloc ?_ _)); refine blk_far ?_ NB261_260.out _; (with_reducible repeat (first | refine blk_drewN ?_ _ | refine blk_drew ?_ | refine blk_alloc ?_ _)); refine blk_far ?_ NB261_260.out _; (with_reducible repeat (first | refine blk_drewN ?_ _ | refine blk_drew ?_ | refine blk_alloc ?_ _)); exact BK261.out⟩
          have n3_ : Aside0 (Below w.heap.size w ((wc.setCell ⟨gb260, 0, none⟩ (.int .i64 3)).setCell ⟨gb260, 3, none⟩ (.int .i64 a1))) := ⟨by repeat (first | (with_reducible first | exact HB.out | apply below_alloc | apply pw_below_drewN | apply below_drew1 | refine below_set ?_ GE260.out | refine below_set ?_ GE261.out) | exact HB.out)⟩
          (try clear HO_261001)
          (try clear BK260)
          (try clear BK261)
          (try clear HB)
          generalize ((wc.setCell ⟨gb260, 0, none⟩ (.int .i64 3)).setCell ⟨gb260, 3, none⟩ (.int .i64 a1)) = w54 at n0_ n1_ n2_ n3_ ⊢
          have HO_261001 := n0_
          have BK260 := n1_
          have BK261 := n2_
          have HB := n3_
          clear n0_ n1_ n2_ n3_
          have n0_ := Aside0.mk (Kd.R_drew HO_261001.out)
          have n1_ := Aside0.mk (blk_drew BK260.out)
          have n2_ := Aside0.mk (blk_drew BK261.out)
          have n3_ := Aside0.mk (below_drew1 HB.out)
          clear HO_261001
          clear BK260
          clear BK261
          clear HB
          have HO_261001 := n0_
          have BK260 := n1_
          have BK261 := n2_
          have HB := n3_
          clear n0_ n1_ n2_ n3_
          refine start_ (n := 7) (S := fun w' => w'.cell? ⟨gb260, 0, none⟩ = some (.int .i64 3) ∧ w'.cell? ⟨gb260, 1, none⟩ = some (.slice Ao11 t263.length co11) ∧ w'.cell? ⟨gb260, 2, none⟩ = some (.bool true) ∧ w'.cell? ⟨gb260, 3, none⟩ = some (.int .i64 a1)) (ds := []) #[false, false, false, false, false, false, false] (by kernel_rfl) rfl rfl ⟨(blk_cell BK260.out 0).trans rfl, (blk_cell BK260.out 1).trans rfl, (blk_cell BK260.out 2).trans rfl, (blk_cell BK260.out 3).trans rfl⟩ (fun hHeld => ?_)
          generalize w54.drew = w55 at HO_261001 BK260 BK261 HB hHeld ⊢
          refine pure_ (i := 1) (N := some 56) (v := ?_) (a' := ?_) #[false, true, false, false, false, false, false] rfl rfl (by kernel_rfl) (fun _ _ _ h => h) (Or.inl ⟨by rfl, ?_⟩) ?_ ?_
          rotate_left
          · intro w'
            go_simp
            with_reducible rfl
          rotate_left
          · simp only [Act.put, List.setIfInBounds_toArray, List.set_cons_zero, List.set_cons_succ, i64_w, i32_w]
            rfl
          refine take_ (i := 0) (N := some 55) (v := ?_) (a' := ?_) #[true, true, false, false, false, false, false] rfl rfl (by kernel_rfl) (fun _ _ _ h => h) (Or.inl ⟨by rfl, ?_⟩) hHeld ?_ ?_
          rotate_left
          · rintro w' ⟨s0, s1, s2, s3⟩
            go_simp
            with_reducible rfl
          rotate_left
          · simp only [Act.put, List.setIfInBounds_toArray, List.set_cons_zero, List.set_cons_succ, i64_w, i32_w]
            rfl
          refine take_ (i := 2) (N := some 57) (v := ?_) (a' := ?_) #[true, true, true, false, false, false, false] rfl rfl (by kernel_rfl) (fun _ _ _ h => h) (Or.inl ⟨by rfl, ?_⟩) hHeld ?_ ?_
          rotate_left
          · rintro w' ⟨s0, s1, s2, s3⟩
            go_simp
            with_reducible rfl
          rotate_left
          · simp only [Act.put, List.setIfInBounds_toArray, List.set_cons_zero, List.set_cons_succ, i64_w, i32_w]
            rfl
          refine one_ (i := 3) (N := some 58) #[true, true, true, true, false, false, false] rfl rfl (by kernel_rfl) (by decide) (fun K hK => ?_)
          refine goes_ Try.func35 (by kernel_rfl) rfl #[.slice Ao11 t263.length co11] (by rfl) rfl rfl (by (try simp only [List.map_toArray, List.map_cons, List.map_nil]); first | done | rfl | (simp only [List.length_drop, List.length_take]; rfl)) ?_
          with_reducible refine (part_opposites.calls _ _ t263 t269 _ ?side1 ?side2 A51.out).mono ?_
          (case side1 => repeat (first | exact (Kd.R_reads' HO_261001.out).2.2 | (with_reducible refine Kd.C_alloc ?_ _) | (with_reducible refine Kd.C_drewN ?_ _) | (with_reducible refine Kd.C_drew ?_)))
          (case side2 => exact (Kd.R_reads' HO_261001.out).2.1)
          rintro e w56 ⟨v270, rfl, ho0, hb⟩
          refine ⟨_, rfl, ?_⟩
          have n0_ := Aside0.mk (Kd.R_elder' (by (with_reducible repeat (first | apply Kd.R_alloc | apply Kd.R_drewN | apply Kd.R_drew)); exact HO_261001.out) (Kd.R_base ho0) hb)
          have n1_ := Aside0.mk (Kd.R_lower (Kd.R_new' ho0 (Kd.R_lt (by (with_reducible repeat (first | apply Kd.R_alloc | apply Kd.R_drewN | apply Kd.R_drew)); exact HO_261001.out))) (below_size (by repeat (first | (with_reducible first | exact HB.out | apply below_alloc | apply pw_below_drewN | apply below_drew1 | refine below_set ?_ GE260.out | refine below_set ?_ GE261.out) | exact HB.out))))
          have n2_ := Aside0.mk (blk_below (g := gb260) (o := .cells #[.int .i64 3, .slice Ao11 t263.length co11, .bool true, .int .i64 a1] 40 (0, 0)) (by (with_reducible repeat (first | refine blk_drewN ?_ _ | refine blk_drew ?_ | refine blk_alloc ?_ _)); exact BK260.out) hb)
          have n3_ := Aside0.mk (blk_below (g := gb261) (o := .cells #[.int .i64 x262000_3, .slice none 0 0, .bool x262002_3, .int .i64 x262003_3] 40 (0, 0)) (by (with_reducible repeat (first | refine blk_drewN ?_ _ | refine blk_drew ?_ | refine blk_alloc ?_ _)); exact BK261.out) hb)
          have n4_ := Aside0.mk (below_step (by repeat (first | (with_reducible first | exact HB.out | apply below_alloc | apply pw_below_drewN | apply below_drew1 | refine below_set ?_ GE260.out | refine below_set ?_ GE261.out) | exact HB.out)) hb)
          clear HO_261001
          clear BK260
          clear BK261
          clear HB
          have HO_261001 := n0_
          have HO271 := n1_
          have BK260 := n2_
          have BK261 := n3_
          have HB := n4_
          clear n0_ n1_ n2_ n3_ n4_
          (try clear hb)
          (try clear hb2)
          (try clear hk)
          (try clear hi)
          (try clear ho0)
          refine hK.out _ _ ⟨(blk_cell BK260.out 0).trans rfl, (blk_cell BK260.out 1).trans rfl, (blk_cell BK260.out 2).trans rfl, (blk_cell BK260.out 3).trans rfl⟩ (fun hHeld => ?_)
          clear hK K
          refine norm_ (a' := ?_) ?_ ?_
          rotate_left
          · show Act.put _ (some 58) _ = _
            simp only [Act.put, List.setIfInBounds_toArray, List.set_cons_zero, List.set_cons_succ, i64_w, i32_w]
            rfl
          refine one_ (i := 4) (N := none) #[true, true, true, true, true, false, false] rfl rfl (by kernel_rfl) (by decide) (fun K hK => ?_)
          have hs57 : w56.cell? ⟨gb261, 0, none⟩ = some (.int .i64 x262000_3) := (blk_cell BK261.out 0).trans rfl
          have hfs57 := blk_frozen BK261.out 0
          have hns57_0 := NB260_261.out
          have hms57_0 := NB261_260.out
          have hs58 : w56.cell? ⟨gb261, 1, none⟩ = some (.slice none 0 0) := (blk_cell BK261.out 1).trans rfl
          have hfs58 := blk_frozen BK261.out 1
          have hns58_0 := NB260_261.out
          have hms58_0 := NB261_260.out
          have hs59 : w56.cell? ⟨gb261, 2, none⟩ = some (.bool x262002_3) := (blk_cell BK261.out 2).trans rfl
          have hfs59 := blk_frozen BK261.out 2
          have hns59_0 := NB260_261.out
          have hms59_0 := NB261_260.out
          have hs60 : w56.cell? ⟨gb261, 3, none⟩ = some (.int .i64 x262003_3) := (blk_cell BK261.out 3).trans rfl
          have hfs60 := blk_frozen BK261.out 3
          have hns60_0 := NB260_261.out
          have hms60_0 := NB261_260.out
          refine skip_ (w1 := ?_) (by rfl) rfl ?_ ?_
          rotate_left
          · go_simp
            rfl
          refine hK.out _ _ ⟨((cell_far (p := ⟨gb261, _, none⟩) NB260_261.out _).trans (((cell_far (p := ⟨gb261, _, none⟩) NB260_261.out _).trans (((cell_far (p := ⟨gb261, _, none⟩) NB260_261.out _).trans (((cell_far (p := ⟨gb261, _, none⟩) NB260_261.out _).trans (hHeld.1)))))))), ((cell_far (p := ⟨gb261, _, none⟩) NB260_261.out _).trans (((cell_far (p := ⟨gb261, _, none⟩) NB260_261.out _).trans (((cell_far (p := ⟨gb261, _, none⟩) NB260_261.out _).trans (((cell_far (p := ⟨gb261, _, none⟩) NB260_261.out _).trans (hHeld.2.1)))))))), ((cell_far (p := ⟨gb261, _, none⟩) NB260_261.out _).trans (((cell_far (p := ⟨gb261, _, none⟩) NB260_261.out _).trans (((cell_far (p := ⟨gb261, _, none⟩) NB260_261.out _).trans (((cell_far (p := ⟨gb261, _, none⟩) NB260_261.out _).trans (hHeld.2.2.1)))))))), ((cell_far (p := ⟨gb261, _, none⟩) NB260_261.out _).trans (((cell_far (p := ⟨gb261, _, none⟩) NB260_261.out _).trans (((cell_far (p := ⟨gb261, _, none⟩) NB260_261.out _).trans (((cell_far (p := ⟨gb261, _, none⟩) NB260_261.out _).trans (hHeld.2.2.2))))))))⟩ (fun hHeld => ?_)
          clear hK K
          refine pure_ (i := 5) (N := some 5) (v := ?_) (a' := ?_) #[true, true, true, true, true, true, false] rfl rfl (by kernel_rfl) (fun _ _ _ h => h) (Or.inl ⟨by rfl, ?_⟩) ?_ ?_
          rotate_left
          · intro w'
            go_simp
            with_reducible rfl
          rotate_left
          · simp only [Act.put, List.setIfInBounds_toArray, List.set_cons_zero, List.set_cons_succ, i64_w, i32_w]
            rfl
          refine pure_ (i := 6) (N := some 6) (v := ?_) (a' := ?_) #[true, true, true, true, true, true, true] rfl rfl (by kernel_rfl) (fun _ _ _ h => h) (Or.inl ⟨by rfl, ?_⟩) ?_ ?_
          rotate_left
          · intro w'
            go_simp
            with_reducible rfl
          rotate_left
          · simp only [Act.put, List.setIfInBounds_toArray, List.set_cons_zero, List.set_cons_succ, i64_w, i32_w]
            rfl
          refine done_ (by kernel_rfl) ?_
          try go_wp2
          refine bodyPost_ret (results_ctt rfl _ _ gb261 40 #[.int .i64 3, .slice Ao11 t263.length co11, .bool true, .int .i64 a1] (0, 0) _ rfl (by (with_reducible repeat (first | refine blk_drewN ?_ _ | refine blk_drew ?_ | refine blk_alloc ?_ _)); refine blk_put (cs := #[.int .i64 3, .slice Ao11 t263.length co11, .bool true, .int .i64 x262003_3]) ?_ 3 _ rfl; (with_reducible repeat (first | refine blk_drewN ?_ _ | refine blk_drew ?_ | refine blk_alloc ?_ _)); refine blk_put (cs := #[.int .i64 3, .slice Ao11 t263.length co11, .bool x262002_3, .int .i64 x262003_3]) ?_ 2 _ rfl; (with_reducible repeat (first | refine blk_drewN ?_ _ | refine blk_drew ?_ | refine blk_alloc ?_ _)); refine blk_put (cs := #[.int .i64 3, .slice none 0 0, .bool x262002_3, .int .i64 x262003_3]) ?_ 1 _ rfl; (with_reducible repeat (first | refine blk_drewN ?_ _ | refine blk_drew ?_ | refine blk_alloc ?_ _)); refine blk_put (cs := #[.int .i64 x262000_3, .slice none 0 0, .bool x262002_3, .int .i64 x262003_3]) ?_ 0 _ rfl; (with_reducible repeat (first | refine blk_drewN ?_ _ | refine blk_drew ?_ | refine blk_alloc ?_ _)); exact BK261.out) Try.underlying40 rfl (by kernel_rfl)) rfl ?_
          exact ⟨_, _, by first | rfl | (simp [errW_none, errW_some] <;> rfl) | (simp [*, errW_none, errW_some] <;> rfl), by (with_reducible repeat (first | apply Kd.R_alloc | apply Kd.R_drewN | apply Kd.R_drew)); exact Kd.R_mono (Kd.R_far (p := ⟨gb261, 3, none⟩) (Kd.R_far (p := ⟨gb261, 2, none⟩) (Kd.R_far (p := ⟨gb261, 1, none⟩) (Kd.R_far (p := ⟨gb261, 0, none⟩) (Kd.R_types HO_261001.out BK261.out (by decide)) (fun _ hk => hk.2) (.int .i64 3)) (fun _ hk => hk.2) (.slice Ao11 t263.length co11)) (fun _ hk => hk.2) (.bool true)) (fun _ hk => hk.2) (.int .i64 a1)) (fun _ hk => hk.1.2), by (with_reducible repeat (first | apply Kd.R_alloc | apply Kd.R_drewN | apply Kd.R_drew)); exact Kd.R_mono (Kd.R_far (p := ⟨gb261, 3, none⟩) (Kd.R_far (p := ⟨gb261, 2, none⟩) (Kd.R_far (p := ⟨gb261, 1, none⟩) (Kd.R_far (p := ⟨gb261, 0, none⟩) (Kd.R_types HO271.out BK261.out (by decide)) (fun _ hk => hk.2) (.int .i64 3)) (fun _ hk => hk.2) (.slice Ao11 t263.length co11)) (fun _ hk => hk.2) (.bool true)) (fun _ hk => hk.2) (.int .i64 a1)) (fun _ hk => hk.1.2), by repeat (first | (with_reducible first | exact HB.out | apply below_alloc | apply pw_below_drewN | apply below_drew1 | refine below_set ?_ GE260.out | refine below_set ?_ GE261.out) | exact HB.out)⟩
        · replace c50 := Bool.eq_false_iff.mpr c50
          subst c50
          have H1 : ((api_Delta.f t263).bind fun t272 => (some (3, t263, false, a1, t272, 0))) = some (r1, r2, r3, r4, r5, r6) := by rw [if_neg (show ¬ (false = true) by decide)] at H; exact H
          clear H
          have H := H1
          clear H1
          replace H := Option.bind_eq_some_iff.mp H
          obtain ⟨t272, A610, H⟩ := H
          replace H : (some (3, t263, false, a1, t272, 0)) = some (r1, r2, r3, r4, r5, r6) := H
          have A61 := Aside0.mk A610
          clear A610
          simp only [Option.some.injEq, Prod.mk.injEq] at H
          obtain ⟨rfl, rfl, rfl, rfl, rfl, rfl⟩ := H
          have hnb62 := NB260_261.out
          have hnc62 := NB261_260.out
          have hcz63_0 : wc.cell? ⟨gb260, 0, none⟩ = some (.int .i64 t262) := (blk_cell BK260.out 0).trans rfl
          have hcz63_1 : wc.cell? ⟨gb260, 1, none⟩ = some (.slice Ao11 t263.length co11) := (blk_cell BK260.out 1).trans rfl
          have hcz63_2 : wc.cell? ⟨gb260, 2, none⟩ = some (.bool false) := (blk_cell BK260.out 2).trans rfl
          have hcz63_3 : wc.cell? ⟨gb260, 3, none⟩ = some (.int .i64 t267) := (blk_cell BK260.out 3).trans rfl
          have hfz63_0 := blk_frozen BK260.out 0
          have hfz63_1 := blk_frozen BK260.out 1
          have hfz63_2 := blk_frozen BK260.out 2
          have hfz63_3 := blk_frozen BK260.out 3
          try go_wp2
          have n0_ : Aside0 (Kd.R k73 73 ((wc.setCell ⟨gb260, 0, none⟩ (.int .i64 3)).setCell ⟨gb260, 3, none⟩ (.int .i64 a1)) w.heap.size (fun _ => True) (.slice Ao11 t263.length co11) t263) := ⟨by (with_reducible repeat (first | apply Kd.R_alloc | apply Kd.R_drewN | apply Kd.R_drew)); exact Kd.R_mono (Kd.R_far (p := ⟨gb260, 3, none⟩) (Kd.R_far (p := ⟨gb260, 0, none⟩) (Kd.R_types HO_261001.out BK260.out (by decide)) (fun _ hk => hk.2) (.int .i64 3)) (fun _ hk => hk.2) (.int .i64 a1)) (fun _ hk => trivial)⟩
          have n1_ : Aside0 (((wc.setCell ⟨gb260, 0, none⟩ (.int .i64 3)).setCell ⟨gb260, 3, none⟩ (.int .i64 a1)).heap[gb260]? = some (.cells #[.int .i64 3, .slice Ao11 t263.length co11, .bool false, .int .i64 a1] 40 (0, 0))) := ⟨by (with_reducible repeat (first | refine blk_drewN ?_ _ | refine blk_drew ?_ | refine blk_alloc ?_ _)); refine blk_put (cs := #[.int .i64 3, .slice Ao11 t263.length co11, .bool false, .int .i64 t267]) ?_ 3 _ rfl; (with_reducible repeat (first | refine blk_drewN ?_ _ | refine blk_drew ?_ | refine blk_alloc ?_ _)); refine blk_put (cs := #[.int .i64 t262, .slice Ao11 t263.length co11, .bool false, .int .i64 t267]) ?_ 0 _ rfl; (with_reducible repeat (first | refine blk_drewN ?_ _ | refine blk_drew ?_ | refine blk_alloc ?_ _)); exact BK260.out⟩
          have n2_ : Aside0 (((wc.setCell ⟨gb260, 0, none⟩ (.int .i64 3)).setCell ⟨gb260, 3, none⟩ (.int .i64 a1)).heap[gb261]? = some (.cells #[.int .i64 x262000_3, .slice none 0 0, .bool x262002_3, .int .i64 x262003_3] 40 (0, 0))) := ⟨by (with_reducible repeat (first | refine blk_drewN ?_ _ | refine blk_drew ?_ | refine blk_alloc ?_ _)); refine blk_far ?_ NB261_260.out _; (with_reducible repeat (first | refine blk_drewN ?_ _ | refine blk_drew ?_ | refine blk_alloc ?_ _)); refine blk_far ?_ NB261_260.out _; (with_reducible repeat (first | refine blk_drewN ?_ _ | refine blk_drew ?_ | refine blk_alloc ?_ _)); exact BK261.out⟩
          have n3_ : Aside0 (Below w.heap.size w ((wc.setCell ⟨gb260, 0, none⟩ (.int .i64 3)).setCell ⟨gb260, 3, none⟩ (.int .i64 a1))) := ⟨by repeat (first | (with_reducible first | exact HB.out | apply below_alloc | apply pw_below_drewN | apply below_drew1 | refine below_set ?_ GE260.out | refine below_set ?_ GE261.out) | exact HB.out)⟩
          (try clear HO_261001)
          (try clear BK260)
          (try clear BK261)
          (try clear HB)
          generalize ((wc.setCell ⟨gb260, 0, none⟩ (.int .i64 3)).setCell ⟨gb260, 3, none⟩ (.int .i64 a1)) = w64 at n0_ n1_ n2_ n3_ ⊢
          have HO_261001 := n0_
          have BK260 := n1_
          have BK261 := n2_
          have HB := n3_
          clear n0_ n1_ n2_ n3_
          have n0_ := Aside0.mk (Kd.R_drew HO_261001.out)
          have n1_ := Aside0.mk (blk_drew BK260.out)
          have n2_ := Aside0.mk (blk_drew BK261.out)
          have n3_ := Aside0.mk (below_drew1 HB.out)
          clear HO_261001
          clear BK260
          clear BK261
          clear HB
          have HO_261001 := n0_
          have BK260 := n1_
          have BK261 := n2_
          have HB := n3_
          clear n0_ n1_ n2_ n3_
          refine start_ (n := 7) (S := fun w' => w'.cell? ⟨gb260, 0, none⟩ = some (.int .i64 3) ∧ w'.cell? ⟨gb260, 1, none⟩ = some (.slice Ao11 t263.length co11) ∧ w'.cell? ⟨gb260, 2, none⟩ = some (.bool false) ∧ w'.cell? ⟨gb260, 3, none⟩ = some (.int .i64 a1)) (ds := []) #[false, false, false, false, false, false, false] (by kernel_rfl) rfl rfl ⟨(blk_cell BK260.out 0).trans rfl, (blk_cell BK260.out 1).trans rfl, (blk_cell BK260.out 2).trans rfl, (blk_cell BK260.out 3).trans rfl⟩ (fun hHeld => ?_)
          generalize w64.drew = w65 at HO_261001 BK260 BK261 HB hHeld ⊢
          refine pure_ (i := 1) (N := some 60) (v := ?_) (a' := ?_) #[false, true, false, false, false, false, false] rfl rfl (by kernel_rfl) (fun _ _ _ h => h) (Or.inl ⟨by rfl, ?_⟩) ?_ ?_
          rotate_left
          · intro w'
            go_simp
            with_reducible rfl
          rotate_left
          · simp only [Act.put, List.setIfInBounds_toArray, List.set_cons_zero, List.set_cons_succ, i64_w, i32_w]
            rfl
          refine take_ (i := 0) (N := some 59) (v := ?_) (a' := ?_) #[true, true, false, false, false, false, false] rfl rfl (by kernel_rfl) (fun _ _ _ h => h) (Or.inl ⟨by rfl, ?_⟩) hHeld ?_ ?_
          rotate_left
          · rintro w' ⟨s0, s1, s2, s3⟩
            go_simp
            with_reducible rfl
          rotate_left
          · simp only [Act.put, List.setIfInBounds_toArray, List.set_cons_zero, List.set_cons_succ, i64_w, i32_w]
            rfl
          refine take_ (i := 2) (N := some 61) (v := ?_) (a' := ?_) #[true, true, true, false, false, false, false] rfl rfl (by kernel_rfl) (fun _ _ _ h => h) (Or.inl ⟨by rfl, ?_⟩) hHeld ?_ ?_
          rotate_left
          · rintro w' ⟨s0, s1, s2, s3⟩
            go_simp
            with_reducible rfl
          rotate_left
          · simp only [Act.put, List.setIfInBounds_toArray, List.set_cons_zero, List.set_cons_succ, i64_w, i32_w]
            rfl
          refine one_ (i := 3) (N := some 62) #[true, true, true, true, false, false, false] rfl rfl (by kernel_rfl) (by decide) (fun K hK => ?_)
          refine goes_ Try.func29 (by kernel_rfl) rfl #[.slice Ao11 t263.length co11] (by rfl) rfl rfl (by (try simp only [List.map_toArray, List.map_cons, List.map_nil]); first | done | rfl | (simp only [List.length_drop, List.length_take]; rfl)) ?_
          with_reducible refine (api_Delta.calls _ _ t263 t272 _ ?side1 ?side2 A61.out).mono ?_
          (case side1 => repeat (first | exact (Kd.R_reads' HO_261001.out).2.2 | (with_reducible refine Kd.C_alloc ?_ _) | (with_reducible refine Kd.C_drewN ?_ _) | (with_reducible refine Kd.C_drew ?_)))
          (case side2 => exact (Kd.R_reads' HO_261001.out).2.1)
          rintro e w66 ⟨v273, rfl, ho0, hb⟩
          refine ⟨_, rfl, ?_⟩
          have n0_ := Aside0.mk (Kd.R_elder' (by (with_reducible repeat (first | apply Kd.R_alloc | apply Kd.R_drewN | apply Kd.R_drew)); exact HO_261001.out) (Kd.R_base ho0) hb)
          have n1_ := Aside0.mk (Kd.R_lower (Kd.R_new' ho0 (Kd.R_lt (by (with_reducible repeat (first | apply Kd.R_alloc | apply Kd.R_drewN | apply Kd.R_drew)); exact HO_261001.out))) (below_size (by repeat (first | (with_reducible first | exact HB.out | apply below_alloc | apply pw_below_drewN | apply below_drew1 | refine below_set ?_ GE260.out | refine below_set ?_ GE261.out) | exact HB.out))))
          have n2_ := Aside0.mk (blk_below (g := gb260) (o := .cells #[.int .i64 3, .slice Ao11 t263.length co11, .bool false, .int .i64 a1] 40 (0, 0)) (by (with_reducible repeat (first | refine blk_drewN ?_ _ | refine blk_drew ?_ | refine blk_alloc ?_ _)); exact BK260.out) hb)
          have n3_ := Aside0.mk (blk_below (g := gb261) (o := .cells #[.int .i64 x262000_3, .slice none 0 0, .bool x262002_3, .int .i64 x262003_3] 40 (0, 0)) (by (with_reducible repeat (first | refine blk_drewN ?_ _ | refine blk_drew ?_ | refine blk_alloc ?_ _)); exact BK261.out) hb)
          have n4_ := Aside0.mk (below_step (by repeat (first | (with_reducible first | exact HB.out | apply below_alloc | apply pw_below_drewN | apply below_drew1 | refine below_set ?_ GE260.out | refine below_set ?_ GE261.out) | exact HB.out)) hb)
          clear HO_261001
          clear BK260
          clear BK261
          clear HB
          have HO_261001 := n0_
          have HO274 := n1_
          have BK260 := n2_
          have BK261 := n3_
          have HB := n4_
          clear n0_ n1_ n2_ n3_ n4_
          (try clear hb)
          (try clear hb2)
          (try clear hk)
          (try clear hi)
          (try clear ho0)
          refine hK.out _ _ ⟨(blk_cell BK260.out 0).trans rfl, (blk_cell BK260.out 1).trans rfl, (blk_cell BK260.out 2).trans rfl, (blk_cell BK260.out 3).trans rfl⟩ (fun hHeld => ?_)
          clear hK K
          refine norm_ (a' := ?_) ?_ ?_
          rotate_left
          · show Act.put _ (some 62) _ = _
            simp only [Act.put, List.setIfInBounds_toArray, List.set_cons_zero, List.set_cons_succ, i64_w, i32_w]
            rfl
          refine one_ (i := 4) (N := none) #[true, true, true, true, true, false, false] rfl rfl (by kernel_rfl) (by decide) (fun K hK => ?_)
          have hs67 : w66.cell? ⟨gb261, 0, none⟩ = some (.int .i64 x262000_3) := (blk_cell BK261.out 0).trans rfl
          have hfs67 := blk_frozen BK261.out 0
          have hns67_0 := NB260_261.out
          have hms67_0 := NB261_260.out
          have hs68 : w66.cell? ⟨gb261, 1, none⟩ = some (.slice none 0 0) := (blk_cell BK261.out 1).trans rfl
          have hfs68 := blk_frozen BK261.out 1
          have hns68_0 := NB260_261.out
          have hms68_0 := NB261_260.out
          have hs69 : w66.cell? ⟨gb261, 2, none⟩ = some (.bool x262002_3) := (blk_cell BK261.out 2).trans rfl
          have hfs69 := blk_frozen BK261.out 2
          have hns69_0 := NB260_261.out
          have hms69_0 := NB261_260.out
          have hs70 : w66.cell? ⟨gb261, 3, none⟩ = some (.int .i64 x262003_3) := (blk_cell BK261.out 3).trans rfl
          have hfs70 := blk_frozen BK261.out 3
          have hns70_0 := NB260_261.out
          have hms70_0 := NB261_260.out
          refine skip_ (w1 := ?_) (by rfl) rfl ?_ ?_
          rotate_left
          · go_simp
            rfl
          refine hK.out _ _ ⟨((cell_far (p := ⟨gb261, _, none⟩) NB260_261.out _).trans (((cell_far (p := ⟨gb261, _, none⟩) NB260_261.out _).trans (((cell_far (p := ⟨gb261, _, none⟩) NB260_261.out _).trans (((cell_far (p := ⟨gb261, _, none⟩) NB260_261.out _).trans (hHeld.1)))))))), ((cell_far (p := ⟨gb261, _, none⟩) NB260_261.out _).trans (((cell_far (p := ⟨gb261, _, none⟩) NB260_261.out _).trans (((cell_far (p := ⟨gb261, _, none⟩) NB260_261.out _).trans (((cell_far (p := ⟨gb261, _, none⟩) NB260_261.out _).trans (hHeld.2.1)))))))), ((cell_far (p := ⟨gb261, _, none⟩) NB260_261.out _).trans (((cell_far (p := ⟨gb261, _, none⟩) NB260_261.out _).trans (((cell_far (p := ⟨gb261, _, none⟩) NB260_261.out _).trans (((cell_far (p := ⟨gb261, _, none⟩) NB260_261.out _).trans (hHeld.2.2.1)))))))), ((cell_far (p := ⟨gb261, _, none⟩) NB260_261.out _).trans (((cell_far (p := ⟨gb261, _, none⟩) NB260_261.out _).trans (((cell_far (p := ⟨gb261, _, none⟩) NB260_261.out _).trans (((cell_far (p := ⟨gb261, _, none⟩) NB260_261.out _).trans (hHeld.2.2.2))))))))⟩ (fun hHeld => ?_)
          clear hK K
          refine pure_ (i := 5) (N := some 5) (v := ?_) (a' := ?_) #[true, true, true, true, true, true, false] rfl rfl (by kernel_rfl) (fun _ _ _ h => h) (Or.inl ⟨by rfl, ?_⟩) ?_ ?_
          rotate_left
          · intro w'
            go_simp
            with_reducible rfl
          rotate_left
          · simp only [Act.put, List.setIfInBounds_toArray, List.set_cons_zero, List.set_cons_succ, i64_w, i32_w]
            rfl
          refine pure_ (i := 6) (N := some 6) (v := ?_) (a' := ?_) #[true, true, true, true, true, true, true] rfl rfl (by kernel_rfl) (fun _ _ _ h => h) (Or.inl ⟨by rfl, ?_⟩) ?_ ?_
          rotate_left
          · intro w'
            go_simp
            with_reducible rfl
          rotate_left
          · simp only [Act.put, List.setIfInBounds_toArray, List.set_cons_zero, List.set_cons_succ, i64_w, i32_w]
            rfl
          refine done_ (by kernel_rfl) ?_
          try go_wp2
          refine bodyPost_ret (results_ctt rfl _ _ gb261 40 #[.int .i64 3, .slice Ao11 t263.length co11, .bool false, .int .i64 a1] (0, 0) _ rfl (by (with_reducible repeat (first | refine blk_drewN ?_ _ | refine blk_drew ?_ | refine blk_alloc ?_ _)); refine blk_put (cs := #[.int .i64 3, .slice Ao11 t263.length co11, .bool false, .int .i64 x262003_3]) ?_ 3 _ rfl; (with_reducible repeat (first | refine blk_drewN ?_ _ | refine blk_drew ?_ | refine blk_alloc ?_ _)); refine blk_put (cs := #[.int .i64 3, .slice Ao11 t263.length co11, .bool x262002_3, .int .i64 x262003_3]) ?_ 2 _ rfl; (with_reducible repeat (first | refine blk_drewN ?_ _ | refine blk_drew ?_ | refine blk_alloc ?_ _)); refine blk_put (cs := #[.int .i64 3, .slice none 0 0, .bool x262002_3, .int .i64 x262003_3]) ?_ 1 _ rfl; (with_reducible repeat (first | refine blk_drewN ?_ _ | refine blk_drew ?_ | refine blk_alloc ?_ _)); refine blk_put (cs := #[.int .i64 x262000_3, .slice none 0 0, .bool x262002_3, .int .i64 x262003_3]) ?_ 0 _ rfl; (with_reducible repeat (first | refine blk_drewN ?_ _ | refine blk_drew ?_ | refine blk_alloc ?_ _)); exact BK261.out) Try.underlying40 rfl (by kernel_rfl)) rfl ?_
          exact ⟨_, _, by first | rfl | (simp [errW_none, errW_some] <;> rfl) | (simp [*, errW_none, errW_some] <;> rfl), by (with_reducible repeat (first | apply Kd.R_alloc | apply Kd.R_drewN | apply Kd.R_drew)); exact Kd.R_mono (Kd.R_far (p := ⟨gb261, 3, none⟩) (Kd.R_far (p := ⟨gb261, 2, none⟩) (Kd.R_far (p := ⟨gb261, 1, none⟩) (Kd.R_far (p := ⟨gb261, 0, none⟩) (Kd.R_types HO_261001.out BK261.out (by decide)) (fun _ hk => hk.2) (.int .i64 3)) (fun _ hk => hk.2) (.slice Ao11 t263.length co11)) (fun _ hk => hk.2) (.bool false)) (fun _ hk => hk.2) (.int .i64 a1)) (fun _ hk => hk.1.2), by (with_reducible repeat (first | apply Kd.R_alloc | apply Kd.R_drewN | apply Kd.R_drew)); exact Kd.R_mono (Kd.R_far (p := ⟨gb261, 3, none⟩) (Kd.R_far (p := ⟨gb261, 2, none⟩) (Kd.R_far (p := ⟨gb261, 1, none⟩) (Kd.R_far (p := ⟨gb261, 0, none⟩) (Kd.R_types HO274.out BK261.out (by decide)) (fun _ hk => hk.2) (.int .i64 3)) (fun _ hk => hk.2) (.slice Ao11 t263.length co11)) (fun _ hk => hk.2) (.bool false)) (fun _ hk => hk.2) (.int .i64 a1)) (fun _ hk => hk.1.2), by repeat (first | (with_reducible first | exact HB.out | apply below_alloc | apply pw_below_drewN | apply below_drew1 | refine below_set ?_ GE260.out | refine below_set ?_ GE261.out) | exact HB.out)⟩

end Go.Proofs.Ytolpcfjmhimpeaa.P
