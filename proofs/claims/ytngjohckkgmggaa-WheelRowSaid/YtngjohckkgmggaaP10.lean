-- PRINTED by print.py (a twelfth state) out of the translation. Not trusted: Lean checks it.
import Derived.Test.YtngjohckkgmggaaP0
import Derived.Test.YtngjohckkgmggaaP4
import Derived.Test.YtngjohckkgmggaaP5
import Derived.Test.YtngjohckkgmggaaP6
import Derived.Test.YtngjohckkgmggaaP8
namespace Go.Proofs.Ytngjohckkgmggaa.P
open Go.RowKit Go.Proofs.YtngjohckkgmggaaW.PrintWords Go.Proofs.YtngjohckkgmggaaW.PrintLast Go.Proofs.YtngjohckkgmggaaW.PrintMore
attribute [local go_sem] max2_int min2_int max_two min_two max_three min_three max_four min_four   -- for this text's walks alone
set_option linter.unusedVariables false
set_option linter.unusedSimpArgs false

/-! ### waystationlaw06_WheelRow: function 4 -/
mutual
def waystationlaw06_WheelRow.l0 : Nat → List (S54) → Int → Int → List (S64) → Int → List (S46) → Option (Bool)
  | 0, _, _, _, _, _, _ => none
  | k + 1, x0, x5, x229000, x229001, x230000, x230001 => if x5 < (x0.length : Int) then (waystationlaw06_WheelRow.j1 k x0 x5 (decide (x5 < 100)) x229000 x229001 x230000 x230001) else (waystationlaw06_WheelRow.j1 k x0 x5 false x229000 x229001 x230000 x230001)
def waystationlaw06_WheelRow.j1 : Nat → List (S54) → Int → Bool → Int → List (S64) → Int → List (S46) → Option (Bool)
  | 0, _, _, _, _, _, _, _ => none
  | k + 1, x0, x5, x31, x229000, x229001, x230000, x230001 => if x31 = true then (if 0 ≤ x5 then (if x5 < (x0.length : Int) then (if (Int.tmod ((rd_T54 x0 x5).f0) 5) = 2 then ((wheel_Stop.f x229000 x229001 ((rd_T54 x0 x5).f1)).bind fun bt232 => ((waystationref06_Stop.f k x230000 x230001 ((rd_T54 x0 x5).f1)).bind fun bt238 => (waystationlaw06_WheelRow.j3 k x0 x5 (bt232.2.2 == bt238.2.2) bt232.1 bt232.2.1 bt238.1 bt238.2.1))) else (if (Int.tmod ((rd_T54 x0 x5).f0) 5) = 3 then (waystationlaw06_WheelRow.j2 k x0 x5 ((Int.tmod ((rd_T54 x0 x5).f0) 5) == 3) x229000 x229001 x230000 x230001 ((rd_T54 x0 x5).f0) ((rd_T54 x0 x5).f1) ((rd_T54 x0 x5).f2)) else (waystationlaw06_WheelRow.j2 k x0 x5 ((Int.tmod ((rd_T54 x0 x5).f0) 5) == 4) x229000 x229001 x230000 x230001 ((rd_T54 x0 x5).f0) ((rd_T54 x0 x5).f1) ((rd_T54 x0 x5).f2)))) else (none)) else (none)) else (some true)
def waystationlaw06_WheelRow.j3 : Nat → List (S54) → Int → Bool → Int → List (S64) → Int → List (S46) → Option (Bool)
  | 0, _, _, _, _, _, _, _ => none
  | k + 1, x0, x5, x7, x229000, x229001, x230000, x230001 => if x7 = true then ((waystationlaw06_Ours.f k x229000 x229001).bind fun bt275 => ((waystationref06_Same.f k bt275.1 bt275.2 x230000 x230001).bind fun t279 => (if t279 = true then ((wheel_Right.f x229000 x229001).bind fun t280 => (if t280 = true then (waystationlaw06_WheelRow.l0 k x0 (wrap64 (x5 + 1)) x229000 x229001 x230000 x230001) else (some false))) else (some false)))) else (some false)
def waystationlaw06_WheelRow.j2 : Nat → List (S54) → Int → Bool → Int → List (S64) → Int → List (S46) → Int → Int → Int → Option (Bool)
  | 0, _, _, _, _, _, _, _, _, _, _ => none
  | k + 1, x0, x5, x85, x229000, x229001, x230000, x230001, x232000, x232001, x232002 => if x85 = true then ((wheel_Tick.f x229000 x229001 x232002).bind fun bt244 => ((waystationref06_Tick.f k x230000 x230001 x232002).bind fun bt253 => (if bt244.2.2.2 = bt253.2.2.2 then ((waystationlaw06_same.f k bt244.2.2.1 bt253.2.2.1).bind fun t262 => (waystationlaw06_WheelRow.j3 k x0 x5 t262 bt244.1 bt244.2.1 bt253.1 bt253.2.1)) else (waystationlaw06_WheelRow.j3 k x0 x5 false bt244.1 bt244.2.1 bt253.1 bt253.2.1)))) else ((wheel_Set.f x229000 x229001 x232001 x232002).bind fun bt263 => ((waystationref06_Set.f k x230000 x230001 x232001 x232002).bind fun bt269 => (waystationlaw06_WheelRow.j3 k x0 x5 (bt263.2.2 == bt269.2.2) bt263.1 bt263.2.1 bt269.1 bt269.2.1)))
end
def waystationlaw06_WheelRow.f (k : Nat) (l0 : List (S54)) : Option (Bool) := (waystationlaw06_alive.f).bind fun t227 => (if t227 = true then (waystationlaw06_WheelRow.l0 k l0 0 0 ([] : List (S64)) 0 ([] : List (S46))) else (some false))
theorem waystationlaw06_WheelRow.mono_l : ∀ k, (∀ y0 y1 y2 y3 y4 y5, LeO (waystationlaw06_WheelRow.l0 k y0 y1 y2 y3 y4 y5) (waystationlaw06_WheelRow.l0 (k + 1) y0 y1 y2 y3 y4 y5)) ∧ (∀ y0 y1 y2 y3 y4 y5 y6, LeO (waystationlaw06_WheelRow.j1 k y0 y1 y2 y3 y4 y5 y6) (waystationlaw06_WheelRow.j1 (k + 1) y0 y1 y2 y3 y4 y5 y6)) ∧ (∀ y0 y1 y2 y3 y4 y5 y6, LeO (waystationlaw06_WheelRow.j3 k y0 y1 y2 y3 y4 y5 y6) (waystationlaw06_WheelRow.j3 (k + 1) y0 y1 y2 y3 y4 y5 y6)) ∧ (∀ y0 y1 y2 y3 y4 y5 y6 y7 y8 y9, LeO (waystationlaw06_WheelRow.j2 k y0 y1 y2 y3 y4 y5 y6 y7 y8 y9) (waystationlaw06_WheelRow.j2 (k + 1) y0 y1 y2 y3 y4 y5 y6 y7 y8 y9))
  | 0 => ⟨fun _ _ _ _ _ _ r h => by simp [waystationlaw06_WheelRow.l0] at h, fun _ _ _ _ _ _ _ r h => by simp [waystationlaw06_WheelRow.j1] at h, fun _ _ _ _ _ _ _ r h => by simp [waystationlaw06_WheelRow.j3] at h, fun _ _ _ _ _ _ _ _ _ _ r h => by simp [waystationlaw06_WheelRow.j2] at h⟩
  | k + 1 => by
    obtain ⟨ih0, ih1, ih2, ih3⟩ := waystationlaw06_WheelRow.mono_l k
    refine ⟨?_, ?_, ?_, ?_⟩
    · intro y0 y1 y2 y3 y4 y5
      unfold waystationlaw06_WheelRow.l0
      repeat' first
      | (with_reducible exact ih0 _ _ _ _ _ _)
      | (with_reducible exact ih1 _ _ _ _ _ _ _)
      | (with_reducible exact ih2 _ _ _ _ _ _ _)
      | (with_reducible exact ih3 _ _ _ _ _ _ _ _ _ _)
      | (with_reducible exact waystationlaw06_Ours.mono _ _ _)
      | (with_reducible exact waystationlaw06_same.mono _ _ _)
      | (with_reducible exact waystationref06_Same.mono _ _ _ _ _)
      | (with_reducible exact waystationref06_Set.mono _ _ _ _ _)
      | (with_reducible exact waystationref06_Stop.mono _ _ _ _)
      | (with_reducible exact waystationref06_Tick.mono _ _ _ _)
      | (with_reducible exact LeO.refl _)
      | (with_reducible exact LeO.none _)
      | (with_reducible refine LeO.ite ?_ ?_)
      | (with_reducible refine LeO.bind ?_ (fun _ => ?_))
      | exact ih0 _ _ _ _ _ _
      | exact ih1 _ _ _ _ _ _ _
      | exact ih2 _ _ _ _ _ _ _
      | exact ih3 _ _ _ _ _ _ _ _ _ _
      | exact waystationlaw06_Ours.mono _ _ _
      | exact waystationlaw06_same.mono _ _ _
      | exact waystationref06_Same.mono _ _ _ _ _
      | exact waystationref06_Set.mono _ _ _ _ _
      | exact waystationref06_Stop.mono _ _ _ _
      | exact waystationref06_Tick.mono _ _ _ _
      | exact LeO.none _
      | refine LeO.ite ?_ ?_
      | refine LeO.bind ?_ (fun _ => ?_)
    · intro y0 y1 y2 y3 y4 y5 y6
      unfold waystationlaw06_WheelRow.j1
      repeat' first
      | (with_reducible exact ih0 _ _ _ _ _ _)
      | (with_reducible exact ih1 _ _ _ _ _ _ _)
      | (with_reducible exact ih2 _ _ _ _ _ _ _)
      | (with_reducible exact ih3 _ _ _ _ _ _ _ _ _ _)
      | (with_reducible exact waystationlaw06_Ours.mono _ _ _)
      | (with_reducible exact waystationlaw06_same.mono _ _ _)
      | (with_reducible exact waystationref06_Same.mono _ _ _ _ _)
      | (with_reducible exact waystationref06_Set.mono _ _ _ _ _)
      | (with_reducible exact waystationref06_Stop.mono _ _ _ _)
      | (with_reducible exact waystationref06_Tick.mono _ _ _ _)
      | (with_reducible exact LeO.refl _)
      | (with_reducible exact LeO.none _)
      | (with_reducible refine LeO.ite ?_ ?_)
      | (with_reducible refine LeO.bind ?_ (fun _ => ?_))
      | exact ih0 _ _ _ _ _ _
      | exact ih1 _ _ _ _ _ _ _
      | exact ih2 _ _ _ _ _ _ _
      | exact ih3 _ _ _ _ _ _ _ _ _ _
      | exact waystationlaw06_Ours.mono _ _ _
      | exact waystationlaw06_same.mono _ _ _
      | exact waystationref06_Same.mono _ _ _ _ _
      | exact waystationref06_Set.mono _ _ _ _ _
      | exact waystationref06_Stop.mono _ _ _ _
      | exact waystationref06_Tick.mono _ _ _ _
      | exact LeO.none _
      | refine LeO.ite ?_ ?_
      | refine LeO.bind ?_ (fun _ => ?_)
    · intro y0 y1 y2 y3 y4 y5 y6
      unfold waystationlaw06_WheelRow.j3
      repeat' first
      | (with_reducible exact ih0 _ _ _ _ _ _)
      | (with_reducible exact ih1 _ _ _ _ _ _ _)
      | (with_reducible exact ih2 _ _ _ _ _ _ _)
      | (with_reducible exact ih3 _ _ _ _ _ _ _ _ _ _)
      | (with_reducible exact waystationlaw06_Ours.mono _ _ _)
      | (with_reducible exact waystationlaw06_same.mono _ _ _)
      | (with_reducible exact waystationref06_Same.mono _ _ _ _ _)
      | (with_reducible exact waystationref06_Set.mono _ _ _ _ _)
      | (with_reducible exact waystationref06_Stop.mono _ _ _ _)
      | (with_reducible exact waystationref06_Tick.mono _ _ _ _)
      | (with_reducible exact LeO.refl _)
      | (with_reducible exact LeO.none _)
      | (with_reducible refine LeO.ite ?_ ?_)
      | (with_reducible refine LeO.bind ?_ (fun _ => ?_))
      | exact ih0 _ _ _ _ _ _
      | exact ih1 _ _ _ _ _ _ _
      | exact ih2 _ _ _ _ _ _ _
      | exact ih3 _ _ _ _ _ _ _ _ _ _
      | exact waystationlaw06_Ours.mono _ _ _
      | exact waystationlaw06_same.mono _ _ _
      | exact waystationref06_Same.mono _ _ _ _ _
      | exact waystationref06_Set.mono _ _ _ _ _
      | exact waystationref06_Stop.mono _ _ _ _
      | exact waystationref06_Tick.mono _ _ _ _
      | exact LeO.none _
      | refine LeO.ite ?_ ?_
      | refine LeO.bind ?_ (fun _ => ?_)
    · intro y0 y1 y2 y3 y4 y5 y6 y7 y8 y9
      unfold waystationlaw06_WheelRow.j2
      repeat' first
      | (with_reducible exact ih0 _ _ _ _ _ _)
      | (with_reducible exact ih1 _ _ _ _ _ _ _)
      | (with_reducible exact ih2 _ _ _ _ _ _ _)
      | (with_reducible exact ih3 _ _ _ _ _ _ _ _ _ _)
      | (with_reducible exact waystationlaw06_Ours.mono _ _ _)
      | (with_reducible exact waystationlaw06_same.mono _ _ _)
      | (with_reducible exact waystationref06_Same.mono _ _ _ _ _)
      | (with_reducible exact waystationref06_Set.mono _ _ _ _ _)
      | (with_reducible exact waystationref06_Stop.mono _ _ _ _)
      | (with_reducible exact waystationref06_Tick.mono _ _ _ _)
      | (with_reducible exact LeO.refl _)
      | (with_reducible exact LeO.none _)
      | (with_reducible refine LeO.ite ?_ ?_)
      | (with_reducible refine LeO.bind ?_ (fun _ => ?_))
      | exact ih0 _ _ _ _ _ _
      | exact ih1 _ _ _ _ _ _ _
      | exact ih2 _ _ _ _ _ _ _
      | exact ih3 _ _ _ _ _ _ _ _ _ _
      | exact waystationlaw06_Ours.mono _ _ _
      | exact waystationlaw06_same.mono _ _ _
      | exact waystationref06_Same.mono _ _ _ _ _
      | exact waystationref06_Set.mono _ _ _ _ _
      | exact waystationref06_Stop.mono _ _ _ _
      | exact waystationref06_Tick.mono _ _ _ _
      | exact LeO.none _
      | refine LeO.ite ?_ ?_
      | refine LeO.bind ?_ (fun _ => ?_)
theorem waystationlaw06_WheelRow.mono : ∀ a0 k, LeO (waystationlaw06_WheelRow.f k a0) (waystationlaw06_WheelRow.f (k + 1) a0) := by
  intro a0 k
  obtain ⟨ih0, ih1, ih2, ih3⟩ := waystationlaw06_WheelRow.mono_l k
  unfold waystationlaw06_WheelRow.f
  repeat' first
      | (with_reducible exact ih0 _ _ _ _ _ _)
      | (with_reducible exact ih1 _ _ _ _ _ _ _)
      | (with_reducible exact ih2 _ _ _ _ _ _ _)
      | (with_reducible exact ih3 _ _ _ _ _ _ _ _ _ _)
      | (with_reducible exact waystationlaw06_Ours.mono _ _ _)
      | (with_reducible exact waystationlaw06_same.mono _ _ _)
      | (with_reducible exact waystationref06_Same.mono _ _ _ _ _)
      | (with_reducible exact waystationref06_Set.mono _ _ _ _ _)
      | (with_reducible exact waystationref06_Stop.mono _ _ _ _)
      | (with_reducible exact waystationref06_Tick.mono _ _ _ _)
      | (with_reducible exact LeO.refl _)
      | (with_reducible exact LeO.none _)
      | (with_reducible refine LeO.ite ?_ ?_)
      | (with_reducible refine LeO.bind ?_ (fun _ => ?_))
      | exact ih0 _ _ _ _ _ _
      | exact ih1 _ _ _ _ _ _ _
      | exact ih2 _ _ _ _ _ _ _
      | exact ih3 _ _ _ _ _ _ _ _ _ _
      | exact waystationlaw06_Ours.mono _ _ _
      | exact waystationlaw06_same.mono _ _ _
      | exact waystationref06_Same.mono _ _ _ _ _
      | exact waystationref06_Set.mono _ _ _ _ _
      | exact waystationref06_Stop.mono _ _ _ _
      | exact waystationref06_Tick.mono _ _ _ _
      | exact LeO.none _
      | refine LeO.ite ?_ ?_
      | refine LeO.bind ?_ (fun _ => ?_)
def waystationlaw06_WheelRow.T29 : Bool × List (List Nat × List Nat) := (true, [([], []), ([0], [0]), ([1], [1]), ([2], [2]), ([3, 2, 2], [2, 3]), ([2], [2]), ([4, 5, 4, 2], [2, 4, 5]), ([6, 2], [2, 6]), ([2, 7], [2, 7]), ([8, 6], [8]), ([9], [9]), ([10, 9, 9], [9, 10]), ([11, 9], [9, 11]), ([9, 12], [9, 12])])
def waystationlaw06_WheelRow.B29 : List Nat := [0, 1, 3, 7, 15, 7, 63, 127, 255, 511, 1023, 2047, 4095, 8191]
theorem waystationlaw06_WheelRow.tab29 : rtab .any (opsOf Try.f4 29) = waystationlaw06_WheelRow.T29 := by kernel_rfl
theorem waystationlaw06_WheelRow.bits29 : waitsOk waystationlaw06_WheelRow.T29.2 waystationlaw06_WheelRow.B29 = true := by kernel_rfl
set_option maxHeartbeats 8000000 in
set_option maxRecDepth 100000 in
theorem waystationlaw06_WheelRow.calls (k : Nat) (A0 : Option Addr) (c0 : Nat) (l0 : List (S54)) (r : Bool) (w : World) (hr0 : Kd.C k54 w A0 l0.length l0) (hc0 : l0.length ≤ c0) (h : waystationlaw06_WheelRow.f k l0 = some r) :
    Calls Try.prog 4 #[.slice A0 l0.length c0] w fun e w' => e = .returned (.bool r) ∧ Below w.heap.size w w' := by
  have hu28 := Try.underlying28
  have hu24 := Try.underlying24
  have hu54 := Try.underlying54
  have HR0 := Aside0.mk hr0
  have HC0 := Aside0.mk hc0
  clear hr0 hc0
  have HB := Aside0.mk (Below.refl w.heap.size w)
  have H : ((waystationlaw06_alive.f).bind fun t227 => (if t227 = true then (waystationlaw06_WheelRow.l0 k l0 0 0 ([] : List (S64)) 0 ([] : List (S46))) else (some false))) = some r := h
  clear h
  replace H := Option.bind_eq_some_iff.mp H
  obtain ⟨t227, A20, H⟩ := H
  replace H : (if t227 = true then (waystationlaw06_WheelRow.l0 k l0 0 0 ([] : List (S64)) 0 ([] : List (S46))) else (some false)) = some r := H
  have A2 := Aside0.mk A20
  clear A20
  by_cases c3 : t227 = true
  · subst c3
    have H1 : (waystationlaw06_WheelRow.l0 k l0 0 0 ([] : List (S64)) 0 ([] : List (S46))) = some r := by rw [if_pos rfl] at H; exact H
    clear H
    have H := H1
    clear H1
    have H' := Aside0.mk H
    clear H
    go_enter Try.func4, Try.ntmps4
    go_wp2_with (first | ((with_reducible refine gate_callee (f := 10) rfl ?_); refine goesL_ (some 22) rfl rfl Try.func10 (by kernel_rfl) rfl #[] rfl (by (try simp only [List.map_toArray, List.map_cons, List.map_nil]); first | done | rfl | (simp only [List.length_drop, List.length_take]; rfl)) ?_; (with_reducible refine (waystationlaw06_alive.calls  true _ A2.out).mono ?_); rintro e w4 ⟨rfl, hb⟩; refine ⟨_, rfl, ?_⟩; have n0_ := Aside0.mk (below_step (by repeat (first | (with_reducible first | exact HB.out | apply below_alloc | apply pw_below_drewN | apply below_drew1) | exact HB.out)) hb); clear HB; have HB := n0_; clear n0_; (try clear hb); (try clear hb2); (try clear hk); (try clear hi)) | ((with_reducible refine gate_dst (N := 3) rfl ?_); refine box_event ?hg (N := 3) ?hd (cs := #[.int .i64 0, .slice none 0 0]) (t := 28) ?hr ?_; (case hd => rfl); (case hg => rfl); (case hr => first | (go_simp; done) | (go_simp; rfl)); intro gb228 hg w5 hbox hb; have n0_ := Aside0.mk (below_step (by repeat (first | (with_reducible first | exact HB.out | apply below_alloc | apply pw_below_drewN | apply below_drew1) | exact HB.out)) hb); have n1_ := Aside0.mk (hbox); have n2_ := Aside0.mk ((by rw [hg]; exact (below_size (by repeat (first | (with_reducible first | exact HB.out | apply below_alloc | apply pw_below_drewN | apply below_drew1) | exact HB.out))) : w.heap.size ≤ gb228)); have n3_ := Aside0.mk ((by rw [hg]; exact (below_size (by repeat (first | (with_reducible first | exact HB.out | apply below_alloc | apply pw_below_drewN | apply below_drew1) | exact HB.out))) : w.heap.size ≤ gb228)); clear HB; have HB := n0_; have BK228 := n1_; have GW228 := n2_; have GE228 := n3_; clear n0_ n1_ n2_ n3_; clear hb hbox hg) | ((with_reducible refine gate_dst (N := 4) rfl ?_); refine box_event ?hg (N := 4) ?hd (cs := #[.int .i64 0, .slice none 0 0]) (t := 24) ?hr ?_; (case hd => rfl); (case hg => rfl); (case hr => first | (go_simp; done) | (go_simp; rfl)); intro gb229 hg w6 hbox hb; have n0_ := Aside0.mk (blk_below (g := gb228) (o := .cells #[.int .i64 0, .slice none 0 0] 28 (0, 0)) (by (with_reducible repeat (first | refine blk_drewN ?_ _ | refine blk_drew ?_ | refine blk_alloc ?_ _)); exact BK228.out) hb); have n1_ := Aside0.mk (below_step (by repeat (first | (with_reducible first | exact HB.out | apply below_alloc | apply pw_below_drewN | apply below_drew1 | refine below_set ?_ GE228.out) | exact HB.out)) hb); have n2_ := Aside0.mk (hbox); have n3_ := Aside0.mk ((by rw [hg]; exact (below_size (by repeat (first | (with_reducible first | exact HB.out | apply below_alloc | apply pw_below_drewN | apply below_drew1 | refine below_set ?_ GE228.out) | exact HB.out))) : w.heap.size ≤ gb229)); have n4_ := Aside0.mk ((by rw [hg]; exact (below_size (by repeat (first | (with_reducible first | exact HB.out | apply below_alloc | apply pw_below_drewN | apply below_drew1 | refine below_set ?_ GE228.out) | exact HB.out))) : w.heap.size ≤ gb229)); have n5_ := Aside0.mk ((by rw [hg]; exact Nat.ne_of_lt (blk_lt (g := gb228) (o := .cells #[.int .i64 0, .slice none 0 0] 28 (0, 0)) (by (with_reducible repeat (first | refine blk_drewN ?_ _ | refine blk_drew ?_ | refine blk_alloc ?_ _)); exact BK228.out)) : gb228 ≠ gb229)); have n6_ := Aside0.mk ((by rw [hg]; exact Nat.ne_of_gt (blk_lt (g := gb228) (o := .cells #[.int .i64 0, .slice none 0 0] 28 (0, 0)) (by (with_reducible repeat (first | refine blk_drewN ?_ _ | refine blk_drew ?_ | refine blk_alloc ?_ _)); exact BK228.out)) : gb229 ≠ gb228)); clear BK228; clear HB; have BK228 := n0_; have HB := n1_; have BK229 := n2_; have GW229 := n3_; have GE229 := n4_; have NB228_229 := n5_; have NB229_228 := n6_; clear n0_ n1_ n2_ n3_ n4_ n5_ n6_; clear hb hbox hg))
    go_loopg [5] k (fun kq v5 w' => ∃ (x5_1 : Int) (x229000_1 : Int) (x229001_1 : List (S64)) (x230000_1 : Int) (x230001_1 : List (S46)) (u229001 : Value) (u230001 : Value), v5 = .int .i64 x5_1 ∧ Aside0 (waystationlaw06_WheelRow.l0 kq l0 x5_1 x229000_1 x229001_1 x230000_1 x230001_1 = some r) ∧ Aside0 (kq ≤ k) ∧ Aside0 (Kd.Q k64 64 w' w.heap.size (fun _ => True) u229001 x229001_1) ∧ Aside0 (Kd.R k46 46 w' w.heap.size (fun _ => True) u230001 x230001_1) ∧ Aside0 (w'.heap[gb228]? = some (.cells #[.int .i64 x229000_1, u229001] 28 (0, 0))) ∧ Aside0 (w'.heap[gb229]? = some (.cells #[.int .i64 x230000_1, u230001] 24 (0, 0))) ∧ Aside0 (Below w.heap.size w w'))
    case atStart => exact ⟨(0), (0), (([] : List (S64))), (0), (([] : List (S46))), (.slice none 0 0), (.slice none 0 0), (by first | rfl | (simp; done) | (simp [*]; done)), H', ⟨Nat.le_refl _⟩, ⟨Kd.Q_of_R (by first | exact Kd.R_nil _ _ _ _ _ | exact Kd.N_nil _ _ _ _ _ | exact Kd.V_nil _ _ _ _ _ | exact Kd.Q_nil _ _ _ _ _ | exact Kd.S_nil _ _ _ _ _)⟩, ⟨by first | exact Kd.R_nil _ _ _ _ _ | exact Kd.N_nil _ _ _ _ _ | exact Kd.V_nil _ _ _ _ _ | exact Kd.Q_nil _ _ _ _ _ | exact Kd.S_nil _ _ _ _ _⟩, ⟨by (with_reducible repeat (first | refine blk_drewN ?_ _ | refine blk_drew ?_ | refine blk_alloc ?_ _)); exact BK228.out⟩, ⟨by (with_reducible repeat (first | refine blk_drewN ?_ _ | refine blk_drew ?_ | refine blk_alloc ?_ _)); exact BK229.out⟩, ⟨by repeat (first | (with_reducible first | exact HB.out | apply below_alloc | apply pw_below_drewN | apply below_drew1 | refine below_set ?_ GE228.out | refine below_set ?_ GE229.out) | exact HB.out)⟩⟩
    case round =>
      clear H'
      try clear c1
      try clear p2
      try clear c3
      try clear c4
      obtain ⟨x5_1, x229000_1, x229001_1, x230000_1, x230001_1, u229001, u230001, rfl, HA, HK1, HO_229001, HO_230001, BK228, BK229, HB⟩ := hrel
      cases gk with
      | zero => exact absurd HA.out (by simp [waystationlaw06_WheelRow.l0])
      | succ k1 =>
        have H := HA.out
        clear HA
        simp only [waystationlaw06_WheelRow.l0] at H
        have HC7 := Aside0.mk H
        clear H
        go_upto_region 6 with (fail)
        go_cut [31] (fun v31 wc => ∃ (kq : Nat) (x31_6 : Bool), v31 = .bool x31_6 ∧ Aside0 (waystationlaw06_WheelRow.j1 kq l0 x5_1 x31_6 x229000_1 x229001_1 x230000_1 x230001_1 = some r) ∧ Aside0 (kq ≤ k1) ∧ Aside0 (Kd.Q k64 64 wc w.heap.size (fun _ => True) u229001 x229001_1) ∧ Aside0 (Kd.R k46 46 wc w.heap.size (fun _ => True) u230001 x230001_1) ∧ Aside0 (wc.heap[gb228]? = some (.cells #[.int .i64 x229000_1, u229001] 28 (0, 0))) ∧ Aside0 (wc.heap[gb229]? = some (.cells #[.int .i64 x230000_1, u230001] 24 (0, 0))) ∧ Aside0 (Below w.heap.size w wc))
        case first =>
          have H := HC7.out
          clear HC7
          by_cases c8 : x5_1 < (l0.length : Int)
          · rw [if_pos c8] at H
            have c8b0 : decide (x5_1 < (l0.length : Int)) = true := decide_eq_true c8
            clear c8
            (first | rw [c8b0] | (simp only [i64_w, i32_w]; rw [c8b0]) | skip)
            have H' := Aside0.mk H
            clear H
            go_wp2
            go_meet
            case rel => exact ⟨_, (decide (x5_1 < 100)), (by first | rfl | (simp; done) | (simp [*]; done)), H', ⟨by have := HK1.out; first | omega | exact Nat.le_refl _⟩, ⟨by (with_reducible repeat (first | apply Kd.Q_alloc | apply Kd.Q_drewN | apply Kd.Q_drew)); exact HO_229001.out⟩, ⟨by (with_reducible repeat (first | apply Kd.R_alloc | apply Kd.R_drewN | apply Kd.R_drew)); exact HO_230001.out⟩, ⟨by (with_reducible repeat (first | refine blk_drewN ?_ _ | refine blk_drew ?_ | refine blk_alloc ?_ _)); exact BK228.out⟩, ⟨by (with_reducible repeat (first | refine blk_drewN ?_ _ | refine blk_drew ?_ | refine blk_alloc ?_ _)); exact BK229.out⟩, ⟨by repeat (first | (with_reducible first | exact HB.out | apply below_alloc | apply pw_below_drewN | apply below_drew1 | refine below_set ?_ GE228.out | refine below_set ?_ GE229.out) | exact HB.out)⟩⟩
          · rw [if_neg c8] at H
            have c8b0 : decide (x5_1 < (l0.length : Int)) = false := decide_eq_false c8
            clear c8
            (first | rw [c8b0] | (simp only [i64_w, i32_w]; rw [c8b0]) | skip)
            have H' := Aside0.mk H
            clear H
            go_wp2
            go_meet
            case rel => exact ⟨_, (false), (by first | rfl | (simp; done) | (simp [*]; done)), H', ⟨by have := HK1.out; first | omega | exact Nat.le_refl _⟩, ⟨by (with_reducible repeat (first | apply Kd.Q_alloc | apply Kd.Q_drewN | apply Kd.Q_drew)); exact HO_229001.out⟩, ⟨by (with_reducible repeat (first | apply Kd.R_alloc | apply Kd.R_drewN | apply Kd.R_drew)); exact HO_230001.out⟩, ⟨by (with_reducible repeat (first | refine blk_drewN ?_ _ | refine blk_drew ?_ | refine blk_alloc ?_ _)); exact BK228.out⟩, ⟨by (with_reducible repeat (first | refine blk_drewN ?_ _ | refine blk_drew ?_ | refine blk_alloc ?_ _)); exact BK229.out⟩, ⟨by repeat (first | (with_reducible first | exact HB.out | apply below_alloc | apply pw_below_drewN | apply below_drew1 | refine below_set ?_ GE228.out | refine below_set ?_ GE229.out) | exact HB.out)⟩⟩
        case rest =>
          clear HC7
          try clear c1
          try clear p2
          try clear c3
          try clear c4
          try clear c8
          try clear c8b0
          try clear p2
          obtain ⟨kq, x31_6, rfl, HA, HJ6, HO_229001, HO_230001, BK228, BK229, HB⟩ := hcut
          cases kq with
          | zero => exact absurd HA.out (by simp [waystationlaw06_WheelRow.j1])
          | succ kj6 =>
            have H := HA.out
            clear HA
            simp only [waystationlaw06_WheelRow.j1] at H
            by_cases c9 : x31_6 = true
            · subst c9
              have H1 : (if 0 ≤ x5_1 then (if x5_1 < (l0.length : Int) then (if (Int.tmod ((rd_T54 l0 x5_1).f0) 5) = 2 then ((wheel_Stop.f x229000_1 x229001_1 ((rd_T54 l0 x5_1).f1)).bind fun bt232 => ((waystationref06_Stop.f kj6 x230000_1 x230001_1 ((rd_T54 l0 x5_1).f1)).bind fun bt238 => (waystationlaw06_WheelRow.j3 kj6 l0 x5_1 (bt232.2.2 == bt238.2.2) bt232.1 bt232.2.1 bt238.1 bt238.2.1))) else (if (Int.tmod ((rd_T54 l0 x5_1).f0) 5) = 3 then (waystationlaw06_WheelRow.j2 kj6 l0 x5_1 ((Int.tmod ((rd_T54 l0 x5_1).f0) 5) == 3) x229000_1 x229001_1 x230000_1 x230001_1 ((rd_T54 l0 x5_1).f0) ((rd_T54 l0 x5_1).f1) ((rd_T54 l0 x5_1).f2)) else (waystationlaw06_WheelRow.j2 kj6 l0 x5_1 ((Int.tmod ((rd_T54 l0 x5_1).f0) 5) == 4) x229000_1 x229001_1 x230000_1 x230001_1 ((rd_T54 l0 x5_1).f0) ((rd_T54 l0 x5_1).f1) ((rd_T54 l0 x5_1).f2)))) else (none)) else (none)) = some r := by rw [if_pos rfl] at H; exact H
              clear H
              have H := H1
              clear H1
              by_cases c10 : 0 ≤ x5_1
              · rw [if_pos c10] at H
                have c10b0 : decide (0 ≤ x5_1) = true := decide_eq_true c10
                clear c10
                by_cases c11 : x5_1 < (l0.length : Int)
                · rw [if_pos c11] at H
                  have c11b0 : decide (x5_1 < (l0.length : Int)) = true := decide_eq_true c11
                  clear c11
                  have HC12 := Aside0.mk H
                  clear H
                  have p230 : 0 ≤ (x5_1 : Int) := of_decide_eq_true (by first | (with_reducible assumption) | assumption)
                  have q230 : x5_1 < (l0.length : Int) := of_decide_eq_true (by first | (with_reducible assumption) | assumption)
                  obtain ⟨ad230, e230, hx230_0, hx230_1, hx230_2⟩ := at_T54 HR0.out x5_1 p230 q230
                  cases e230
                  replace hx230_0 := (HB.out.cell (World.block_lt_of_cell? w _ hx230_0)).trans hx230_0
                  replace hx230_1 := (HB.out.cell (World.block_lt_of_cell? w _ hx230_1)).trans hx230_1
                  replace hx230_2 := (HB.out.cell (World.block_lt_of_cell? w _ hx230_2)).trans hx230_2
                  replace p230 := eq_true p230
                  replace q230 := eq_true q230
                  go_upto_block 2 with (first | ((with_reducible refine gate_dst (N := 6) rfl ?_); refine box_event ?hg (N := 6) ?hd (cs := #[.int .u8 0, .int .i64 0, .int .i64 0]) (t := 54) ?hr ?_; (case hd => rfl); (case hg => rfl); (case hr => first | (go_simp; done) | (go_simp; rfl)); intro gb231 hg w13 hbox hb; have n0_ := Aside0.mk (Kd.Q_below (by (with_reducible repeat (first | apply Kd.Q_alloc | apply Kd.Q_drewN | apply Kd.Q_drew)); exact HO_229001.out) hb); have n1_ := Aside0.mk (Kd.R_below (by (with_reducible repeat (first | apply Kd.R_alloc | apply Kd.R_drewN | apply Kd.R_drew)); exact HO_230001.out) hb); have n2_ := Aside0.mk (blk_below (g := gb228) (o := .cells #[.int .i64 x229000_1, u229001] 28 (0, 0)) (by (with_reducible repeat (first | refine blk_drewN ?_ _ | refine blk_drew ?_ | refine blk_alloc ?_ _)); exact BK228.out) hb); have n3_ := Aside0.mk (blk_below (g := gb229) (o := .cells #[.int .i64 x230000_1, u230001] 24 (0, 0)) (by (with_reducible repeat (first | refine blk_drewN ?_ _ | refine blk_drew ?_ | refine blk_alloc ?_ _)); exact BK229.out) hb); have n4_ := Aside0.mk (below_step (by repeat (first | (with_reducible first | exact HB.out | apply below_alloc | apply pw_below_drewN | apply below_drew1 | refine below_set ?_ GE228.out | refine below_set ?_ GE229.out) | exact HB.out)) hb); have n5_ := Aside0.mk (hbox); have n6_ := Aside0.mk ((by rw [hg]; exact (below_size (by repeat (first | (with_reducible first | exact HB.out | apply below_alloc | apply pw_below_drewN | apply below_drew1 | refine below_set ?_ GE228.out | refine below_set ?_ GE229.out) | exact HB.out))) : w.heap.size ≤ gb231)); have n7_ := Aside0.mk ((by rw [hg]; exact (below_size (by repeat (first | (with_reducible first | exact HB.out | apply below_alloc | apply pw_below_drewN | apply below_drew1 | refine below_set ?_ GE228.out | refine below_set ?_ GE229.out) | exact HB.out))) : w.heap.size ≤ gb231)); have n8_ := Aside0.mk ((by rw [hg]; exact Nat.ne_of_lt (blk_lt (g := gb228) (o := .cells #[.int .i64 x229000_1, u229001] 28 (0, 0)) (by (with_reducible repeat (first | refine blk_drewN ?_ _ | refine blk_drew ?_ | refine blk_alloc ?_ _)); exact BK228.out)) : gb228 ≠ gb231)); have n9_ := Aside0.mk ((by rw [hg]; exact Nat.ne_of_gt (blk_lt (g := gb228) (o := .cells #[.int .i64 x229000_1, u229001] 28 (0, 0)) (by (with_reducible repeat (first | refine blk_drewN ?_ _ | refine blk_drew ?_ | refine blk_alloc ?_ _)); exact BK228.out)) : gb231 ≠ gb228)); have n10_ := Aside0.mk ((by rw [hg]; exact Nat.ne_of_lt (blk_lt (g := gb229) (o := .cells #[.int .i64 x230000_1, u230001] 24 (0, 0)) (by (with_reducible repeat (first | refine blk_drewN ?_ _ | refine blk_drew ?_ | refine blk_alloc ?_ _)); exact BK229.out)) : gb229 ≠ gb231)); have n11_ := Aside0.mk ((by rw [hg]; exact Nat.ne_of_gt (blk_lt (g := gb229) (o := .cells #[.int .i64 x230000_1, u230001] 24 (0, 0)) (by (with_reducible repeat (first | refine blk_drewN ?_ _ | refine blk_drew ?_ | refine blk_alloc ?_ _)); exact BK229.out)) : gb231 ≠ gb229)); clear HO_229001; clear HO_230001; clear BK228; clear BK229; clear HB; have HO_229001 := n0_; have HO_230001 := n1_; have BK228 := n2_; have BK229 := n3_; have HB := n4_; have BK231 := n5_; have GW231 := n6_; have GE231 := n7_; have NB228_231 := n8_; have NB231_228 := n9_; have NB229_231 := n10_; have NB231_229 := n11_; clear n0_ n1_ n2_ n3_ n4_ n5_ n6_ n7_ n8_ n9_ n10_ n11_; clear hb hbox hg; have hnb14 := NB231_228.out; have hnc14 := NB228_231.out; have hnb15 := NB231_229.out; have hnc15 := NB229_231.out; have hcz16_0 : w13.cell? ⟨gb231, 0, none⟩ = some (.int .u8 0) := (blk_cell BK231.out 0).trans rfl; have hcz16_1 : w13.cell? ⟨gb231, 1, none⟩ = some (.int .i64 0) := (blk_cell BK231.out 1).trans rfl; have hcz16_2 : w13.cell? ⟨gb231, 2, none⟩ = some (.int .i64 0) := (blk_cell BK231.out 2).trans rfl; have hfz16_0 := blk_frozen BK231.out 0; have hfz16_1 := blk_frozen BK231.out 1; have hfz16_2 := blk_frozen BK231.out 2))
                  (try simp only [Act.put, List.setIfInBounds_toArray, List.set_cons_zero, List.set_cons_succ])
                  go_cut [7] (fun v7 wc => ∃ (kq : Nat) (x7_11 : Bool) (x229000_11 : Int) (x229001_11 : List (S64)) (x230000_11 : Int) (x230001_11 : List (S46)) (u229001 : Value) (u230001 : Value), v7 = .bool x7_11 ∧ Aside0 (waystationlaw06_WheelRow.j3 kq l0 x5_1 x7_11 x229000_11 x229001_11 x230000_11 x230001_11 = some r) ∧ Aside0 (kq ≤ kj6) ∧ Aside0 (Kd.Q k64 64 wc w.heap.size (fun _ => True) u229001 x229001_11) ∧ Aside0 (Kd.R k46 46 wc w.heap.size (fun _ => True) u230001 x230001_11) ∧ Aside0 (wc.heap[gb228]? = some (.cells #[.int .i64 x229000_11, u229001] 28 (0, 0))) ∧ Aside0 (wc.heap[gb229]? = some (.cells #[.int .i64 x230000_11, u230001] 24 (0, 0))) ∧ Aside0 (wc.heap[gb231]? = some (.cells #[.int .u8 ((rd_T54 l0 x5_1).f0), .int .i64 ((rd_T54 l0 x5_1).f1), .int .i64 ((rd_T54 l0 x5_1).f2)] 54 (0, 0))) ∧ Aside0 (Below w.heap.size w wc))
                  case first =>
                    have H := HC12.out
                    clear HC12
                    by_cases c17 : (Int.tmod ((rd_T54 l0 x5_1).f0) 5) = 2
                    · rw [if_pos c17] at H
                      have c17b0 : ((Int.tmod ((rd_T54 l0 x5_1).f0) 5) == 2) = true := beq_iff_eq.mpr c17
                      have c17b1 : ((Int.tmod ((rd_T54 l0 x5_1).f0) 5) != 2) = false := bne_eq_false_iff_eq.mpr c17
                      clear c17
                      (first | rw [c17b0] | (simp only [i64_w, i32_w]; rw [c17b0]) | skip)
                      replace H := Option.bind_eq_some_iff.mp H
                      obtain ⟨⟨t232, t233, t236⟩, A180, H⟩ := H
                      replace H : ((waystationref06_Stop.f kj6 x230000_1 x230001_1 ((rd_T54 l0 x5_1).f1)).bind fun bt238 => (waystationlaw06_WheelRow.j3 kj6 l0 x5_1 (t236 == bt238.2.2) t232 t233 bt238.1 bt238.2.1)) = some r := H
                      have A18 := Aside0.mk A180
                      clear A180
                      replace H := Option.bind_eq_some_iff.mp H
                      obtain ⟨⟨t238, t239, t242⟩, A190, H⟩ := H
                      replace H : (waystationlaw06_WheelRow.j3 kj6 l0 x5_1 (t236 == t242) t232 t233 t238 t239) = some r := H
                      have A19 := Aside0.mk A190
                      clear A190
                      have H' := Aside0.mk H
                      clear H
                      have hnb20 := NB228_229.out
                      have hnc20 := NB229_228.out
                      have hnb21 := NB228_231.out
                      have hnc21 := NB231_228.out
                      have hcz22_0 : w13.cell? ⟨gb228, 0, none⟩ = some (.int .i64 x229000_1) := (blk_cell BK228.out 0).trans rfl
                      have hcz22_1 : w13.cell? ⟨gb228, 1, none⟩ = some (u229001) := (blk_cell BK228.out 1).trans rfl
                      have hfz22_0 := blk_frozen BK228.out 0
                      have hfz22_1 := blk_frozen BK228.out 1
                      have hnb23 := NB231_229.out
                      have hnc23 := NB229_231.out
                      have hcz24_0 : w13.cell? ⟨gb231, 0, none⟩ = some (.int .u8 0) := (blk_cell BK231.out 0).trans rfl
                      have hcz24_1 : w13.cell? ⟨gb231, 1, none⟩ = some (.int .i64 0) := (blk_cell BK231.out 1).trans rfl
                      have hcz24_2 : w13.cell? ⟨gb231, 2, none⟩ = some (.int .i64 0) := (blk_cell BK231.out 2).trans rfl
                      have hfz24_0 := blk_frozen BK231.out 0
                      have hfz24_1 := blk_frozen BK231.out 1
                      have hfz24_2 := blk_frozen BK231.out 2
                      obtain ⟨Ao25, co25, eo25, _⟩ := Kd.Q_slice HO_229001.out
                      subst eo25
                      go_wp2_with (first | ((with_reducible refine gate_callee (f := 14) rfl ?_); refine goesL_ (some 70) rfl rfl Try.func14 (by kernel_rfl) rfl #[.agg #[.int .i64 x229000_1, .slice Ao25 x229001_1.length co25], .int .i64 ((rd_T54 l0 x5_1).f1)] rfl (by (try simp only [List.map_toArray, List.map_cons, List.map_nil]); first | done | rfl | (simp only [List.length_drop, List.length_take]; rfl)) ?_; (with_reducible refine (wheel_Stop.calls x229000_1 _ _ x229001_1 ((rd_T54 l0 x5_1).f1) t232 t233 t236 _ ?side1 ?side2 A18.out).mono ?_); (case side1 => refine (Kd.Q_reads' (e := 64) (base := w.heap.size) (ok := fun k_ => True) (n := x229001_1.length) (c := co25) ?_).2.2; exact (by (with_reducible repeat (first | apply Kd.Q_alloc | apply Kd.Q_drewN | apply Kd.Q_drew)); exact (Kd.Q_mono (Kd.Q_far (p := ⟨gb231, 2, none⟩) (Kd.Q_far (p := ⟨gb231, 1, none⟩) (Kd.Q_far (p := ⟨gb231, 0, none⟩) (Kd.Q_types HO_229001.out BK231.out (by decide)) (fun _ hk => hk.2) (.int .u8 ((rd_T54 l0 x5_1).f0))) (fun _ hk => hk.2) (.int .i64 ((rd_T54 l0 x5_1).f1))) (fun _ hk => hk.2) (.int .i64 ((rd_T54 l0 x5_1).f2))) (fun _ h_ => h_.1)))); (case side2 => exact (Kd.Q_reads' HO_229001.out).2.1); rintro e w26 ⟨v234, rfl, ho0, hb⟩; refine ⟨_, rfl, ?_⟩; have n0_ := Aside0.mk (Kd.Q_elder' (by (with_reducible repeat (first | apply Kd.Q_alloc | apply Kd.Q_drewN | apply Kd.Q_drew)); exact (Kd.Q_mono (Kd.Q_far (p := ⟨gb231, 2, none⟩) (Kd.Q_far (p := ⟨gb231, 1, none⟩) (Kd.Q_far (p := ⟨gb231, 0, none⟩) (Kd.Q_types HO_229001.out BK231.out (by decide)) (fun _ hk => hk.2) (.int .u8 ((rd_T54 l0 x5_1).f0))) (fun _ hk => hk.2) (.int .i64 ((rd_T54 l0 x5_1).f1))) (fun _ hk => hk.2) (.int .i64 ((rd_T54 l0 x5_1).f2))) (fun _ h_ => h_.1))) (Kd.R_base ho0) hb); have n1_ := Aside0.mk (Kd.R_below (by (with_reducible repeat (first | apply Kd.R_alloc | apply Kd.R_drewN | apply Kd.R_drew)); exact (Kd.R_mono (Kd.R_far (p := ⟨gb231, 2, none⟩) (Kd.R_far (p := ⟨gb231, 1, none⟩) (Kd.R_far (p := ⟨gb231, 0, none⟩) (Kd.R_types HO_230001.out BK231.out (by decide)) (fun _ hk => hk.2) (.int .u8 ((rd_T54 l0 x5_1).f0))) (fun _ hk => hk.2) (.int .i64 ((rd_T54 l0 x5_1).f1))) (fun _ hk => hk.2) (.int .i64 ((rd_T54 l0 x5_1).f2))) (fun _ h_ => h_.1))) hb); have n2_ := Aside0.mk (Kd.R_lower (Kd.R_new' ho0 (Kd.Q_lt (by (with_reducible repeat (first | apply Kd.Q_alloc | apply Kd.Q_drewN | apply Kd.Q_drew)); exact (Kd.Q_mono (Kd.Q_far (p := ⟨gb231, 2, none⟩) (Kd.Q_far (p := ⟨gb231, 1, none⟩) (Kd.Q_far (p := ⟨gb231, 0, none⟩) (Kd.Q_types HO_229001.out BK231.out (by decide)) (fun _ hk => hk.2) (.int .u8 ((rd_T54 l0 x5_1).f0))) (fun _ hk => hk.2) (.int .i64 ((rd_T54 l0 x5_1).f1))) (fun _ hk => hk.2) (.int .i64 ((rd_T54 l0 x5_1).f2))) (fun _ h_ => h_.1))))) (below_size (by repeat (first | (with_reducible first | exact HB.out | apply below_alloc | apply pw_below_drewN | apply below_drew1 | refine below_set ?_ GE228.out | refine below_set ?_ GE229.out | refine below_set ?_ GE231.out) | exact HB.out)))); have n3_ := Aside0.mk (blk_below (g := gb228) (o := .cells #[.int .i64 x229000_1, .slice Ao25 x229001_1.length co25] 28 (0, 0)) (by (with_reducible repeat (first | refine blk_drewN ?_ _ | refine blk_drew ?_ | refine blk_alloc ?_ _)); refine blk_far ?_ NB228_231.out _; (with_reducible repeat (first | refine blk_drewN ?_ _ | refine blk_drew ?_ | refine blk_alloc ?_ _)); refine blk_far ?_ NB228_231.out _; (with_reducible repeat (first | refine blk_drewN ?_ _ | refine blk_drew ?_ | refine blk_alloc ?_ _)); refine blk_far ?_ NB228_231.out _; (with_reducible repeat (first | refine blk_drewN ?_ _ | refine blk_drew ?_ | refine blk_alloc ?_ _)); exact BK228.out) hb); have n4_ := Aside0.mk (blk_below (g := gb229) (o := .cells #[.int .i64 x230000_1, u230001] 24 (0, 0)) (by (with_reducible repeat (first | refine blk_drewN ?_ _ | refine blk_drew ?_ | refine blk_alloc ?_ _)); refine blk_far ?_ NB229_231.out _; (with_reducible repeat (first | refine blk_drewN ?_ _ | refine blk_drew ?_ | refine blk_alloc ?_ _)); refine blk_far ?_ NB229_231.out _; (with_reducible repeat (first | refine blk_drewN ?_ _ | refine blk_drew ?_ | refine blk_alloc ?_ _)); refine blk_far ?_ NB229_231.out _; (with_reducible repeat (first | refine blk_drewN ?_ _ | refine blk_drew ?_ | refine blk_alloc ?_ _)); exact BK229.out) hb); have n5_ := Aside0.mk (blk_below (g := gb231) (o := .cells #[.int .u8 ((rd_T54 l0 x5_1).f0), .int .i64 ((rd_T54 l0 x5_1).f1), .int .i64 ((rd_T54 l0 x5_1).f2)] 54 (0, 0)) (by (with_reducible repeat (first | refine blk_drewN ?_ _ | refine blk_drew ?_ | refine blk_alloc ?_ _)); refine blk_put (cs := #[.int .u8 ((rd_T54 l0 x5_1).f0), .int .i64 ((rd_T54 l0 x5_1).f1), .int .i64 0]) ?_ 2 _ rfl; (with_reducible repeat (first | refine blk_drewN ?_ _ | refine blk_drew ?_ | refine blk_alloc ?_ _)); refine blk_put (cs := #[.int .u8 ((rd_T54 l0 x5_1).f0), .int .i64 0, .int .i64 0]) ?_ 1 _ rfl; (with_reducible repeat (first | refine blk_drewN ?_ _ | refine blk_drew ?_ | refine blk_alloc ?_ _)); refine blk_put (cs := #[.int .u8 0, .int .i64 0, .int .i64 0]) ?_ 0 _ rfl; (with_reducible repeat (first | refine blk_drewN ?_ _ | refine blk_drew ?_ | refine blk_alloc ?_ _)); exact BK231.out) hb); have n6_ := Aside0.mk (below_step (by repeat (first | (with_reducible first | exact HB.out | apply below_alloc | apply pw_below_drewN | apply below_drew1 | refine below_set ?_ GE228.out | refine below_set ?_ GE229.out | refine below_set ?_ GE231.out) | exact HB.out)) hb); clear HO_229001; clear HO_230001; clear BK228; clear BK229; clear BK231; clear HB; have HO_229001 := n0_; have HO_230001 := n1_; have HO235 := n2_; have BK228 := n3_; have BK229 := n4_; have BK231 := n5_; have HB := n6_; clear n0_ n1_ n2_ n3_ n4_ n5_ n6_; (try clear hb); (try clear hb2); (try clear hk); (try clear hi); (try clear ho0)) | ((with_reducible refine gate_dst (N := 8) rfl ?_); refine box_event ?hg (N := 8) ?hd (cs := #[.int .i64 0, .slice none 0 0]) (t := 28) ?hr ?_; (case hd => rfl); (case hg => rfl); (case hr => first | (go_simp; done) | (go_simp; rfl)); intro gb237 hg w27 hbox hb; have n0_ := Aside0.mk (Kd.Q_below (by (with_reducible repeat (first | apply Kd.Q_alloc | apply Kd.Q_drewN | apply Kd.Q_drew)); exact HO_229001.out) hb); have n1_ := Aside0.mk (Kd.R_below (by (with_reducible repeat (first | apply Kd.R_alloc | apply Kd.R_drewN | apply Kd.R_drew)); exact HO_230001.out) hb); have n2_ := Aside0.mk (Kd.R_below (by (with_reducible repeat (first | apply Kd.R_alloc | apply Kd.R_drewN | apply Kd.R_drew)); exact HO235.out) hb); have n3_ := Aside0.mk (blk_below (g := gb228) (o := .cells #[.int .i64 x229000_1, .slice Ao25 x229001_1.length co25] 28 (0, 0)) (by (with_reducible repeat (first | refine blk_drewN ?_ _ | refine blk_drew ?_ | refine blk_alloc ?_ _)); exact BK228.out) hb); have n4_ := Aside0.mk (blk_below (g := gb229) (o := .cells #[.int .i64 x230000_1, u230001] 24 (0, 0)) (by (with_reducible repeat (first | refine blk_drewN ?_ _ | refine blk_drew ?_ | refine blk_alloc ?_ _)); exact BK229.out) hb); have n5_ := Aside0.mk (blk_below (g := gb231) (o := .cells #[.int .u8 ((rd_T54 l0 x5_1).f0), .int .i64 ((rd_T54 l0 x5_1).f1), .int .i64 ((rd_T54 l0 x5_1).f2)] 54 (0, 0)) (by (with_reducible repeat (first | refine blk_drewN ?_ _ | refine blk_drew ?_ | refine blk_alloc ?_ _)); exact BK231.out) hb); have n6_ := Aside0.mk (below_step (by repeat (first | (with_reducible first | exact HB.out | apply below_alloc | apply pw_below_drewN | apply below_drew1 | refine below_set ?_ GE228.out | refine below_set ?_ GE229.out | refine below_set ?_ GE231.out) | exact HB.out)) hb); have n7_ := Aside0.mk (hbox); have n8_ := Aside0.mk ((by rw [hg]; exact (below_size (by repeat (first | (with_reducible first | exact HB.out | apply below_alloc | apply pw_below_drewN | apply below_drew1 | refine below_set ?_ GE228.out | refine below_set ?_ GE229.out | refine below_set ?_ GE231.out) | exact HB.out))) : w.heap.size ≤ gb237)); have n9_ := Aside0.mk ((by rw [hg]; exact (below_size (by repeat (first | (with_reducible first | exact HB.out | apply below_alloc | apply pw_below_drewN | apply below_drew1 | refine below_set ?_ GE228.out | refine below_set ?_ GE229.out | refine below_set ?_ GE231.out) | exact HB.out))) : w.heap.size ≤ gb237)); have n10_ := Aside0.mk ((by rw [hg]; exact Nat.ne_of_lt (blk_lt (g := gb228) (o := .cells #[.int .i64 x229000_1, .slice Ao25 x229001_1.length co25] 28 (0, 0)) (by (with_reducible repeat (first | refine blk_drewN ?_ _ | refine blk_drew ?_ | refine blk_alloc ?_ _)); exact BK228.out)) : gb228 ≠ gb237)); have n11_ := Aside0.mk ((by rw [hg]; exact Nat.ne_of_gt (blk_lt (g := gb228) (o := .cells #[.int .i64 x229000_1, .slice Ao25 x229001_1.length co25] 28 (0, 0)) (by (with_reducible repeat (first | refine blk_drewN ?_ _ | refine blk_drew ?_ | refine blk_alloc ?_ _)); exact BK228.out)) : gb237 ≠ gb228)); have n12_ := Aside0.mk ((by rw [hg]; exact Nat.ne_of_lt (blk_lt (g := gb229) (o := .cells #[.int .i64 x230000_1, u230001] 24 (0, 0)) (by (with_reducible repeat (first | refine blk_drewN ?_ _ | refine blk_drew ?_ | refine blk_alloc ?_ _)); exact BK229.out)) : gb229 ≠ gb237)); have n13_ := Aside0.mk ((by rw [hg]; exact Nat.ne_of_gt (blk_lt (g := gb229) (o := .cells #[.int .i64 x230000_1, u230001] 24 (0, 0)) (by (with_reducible repeat (first | refine blk_drewN ?_ _ | refine blk_drew ?_ | refine blk_alloc ?_ _)); exact BK229.out)) : gb237 ≠ gb229)); have n14_ := Aside0.mk ((by rw [hg]; exact Nat.ne_of_lt (blk_lt (g := gb231) (o := .cells #[.int .u8 ((rd_T54 l0 x5_1).f0), .int .i64 ((rd_T54 l0 x5_1).f1), .int .i64 ((rd_T54 l0 x5_1).f2)] 54 (0, 0)) (by (with_reducible repeat (first | refine blk_drewN ?_ _ | refine blk_drew ?_ | refine blk_alloc ?_ _)); exact BK231.out)) : gb231 ≠ gb237)); have n15_ := Aside0.mk ((by rw [hg]; exact Nat.ne_of_gt (blk_lt (g := gb231) (o := .cells #[.int .u8 ((rd_T54 l0 x5_1).f0), .int .i64 ((rd_T54 l0 x5_1).f1), .int .i64 ((rd_T54 l0 x5_1).f2)] 54 (0, 0)) (by (with_reducible repeat (first | refine blk_drewN ?_ _ | refine blk_drew ?_ | refine blk_alloc ?_ _)); exact BK231.out)) : gb237 ≠ gb231)); clear HO_229001; clear HO_230001; clear HO235; clear BK228; clear BK229; clear BK231; clear HB; have HO_229001 := n0_; have HO_230001 := n1_; have HO235 := n2_; have BK228 := n3_; have BK229 := n4_; have BK231 := n5_; have HB := n6_; have BK237 := n7_; have GW237 := n8_; have GE237 := n9_; have NB228_237 := n10_; have NB237_228 := n11_; have NB229_237 := n12_; have NB237_229 := n13_; have NB231_237 := n14_; have NB237_231 := n15_; clear n0_ n1_ n2_ n3_ n4_ n5_ n6_ n7_ n8_ n9_ n10_ n11_ n12_ n13_ n14_ n15_; clear hb hbox hg; have hnb28 := NB237_228.out; have hnc28 := NB228_237.out; have hnb29 := NB237_229.out; have hnc29 := NB229_237.out; have hnb30 := NB237_231.out; have hnc30 := NB231_237.out; have hcz31_0 : w27.cell? ⟨gb237, 0, none⟩ = some (.int .i64 0) := (blk_cell BK237.out 0).trans rfl; have hcz31_1 : w27.cell? ⟨gb237, 1, none⟩ = some (.slice none 0 0) := (blk_cell BK237.out 1).trans rfl; have hfz31_0 := blk_frozen BK237.out 0; have hfz31_1 := blk_frozen BK237.out 1; obtain ⟨Ao32, co32, eo32⟩ := Kd.R_slice HO235.out; subst eo32) | ((with_reducible refine gate_store (t := 28) (p := 8) rfl ?_); refine store_event (t := 28) (p := 8) (v := ?vo_w33) (w1 := ((w27.setCell ⟨gb237, 0, none⟩ (.int .i64 t232)).setCell ⟨gb237, 1, none⟩ (.slice Ao32 t233.length co32))) ?hg ?ho ?hn ?hr ?_; (case ho => rfl); (case hg => rfl); (case hn => rfl); (case hr => first | (go_simp; done) | (go_simp; rfl)); intro w33 hw; have n0_ : Aside0 (Kd.Q k64 64 w33 w.heap.size (fun k_ => some k_ ≠ (.slice Ao32 t233.length co32 : Value).ownBlock) (.slice Ao25 x229001_1.length co25) x229001_1) := ⟨(by rw [hw]; exact (by (with_reducible repeat (first | apply Kd.Q_alloc | apply Kd.Q_drewN | apply Kd.Q_drew)); exact Kd.Q_mono (Kd.Q_far (p := ⟨gb237, 1, none⟩) (Kd.Q_far (p := ⟨gb237, 0, none⟩) (Kd.Q_types HO_229001.out BK237.out (by decide)) (fun _ hk => hk.2) (.int .i64 t232)) (fun _ hk => hk.2) (.slice Ao32 t233.length co32)) (fun _ hk => hk.1.2)))⟩; have n1_ : Aside0 (Kd.R k46 46 w33 w.heap.size (fun _ => True) u230001 x230001_1) := ⟨(by rw [hw]; exact (by (with_reducible repeat (first | apply Kd.R_alloc | apply Kd.R_drewN | apply Kd.R_drew)); exact Kd.R_mono (Kd.R_far (p := ⟨gb237, 1, none⟩) (Kd.R_far (p := ⟨gb237, 0, none⟩) (Kd.R_types HO_230001.out BK237.out (by decide)) (fun _ hk => hk.2) (.int .i64 t232)) (fun _ hk => hk.2) (.slice Ao32 t233.length co32)) (fun _ hk => trivial)))⟩; have n2_ : Aside0 (Kd.R k64 64 w33 w.heap.size (fun k_ => some k_ ≠ (.slice Ao25 x229001_1.length co25 : Value).ownBlock) (.slice Ao32 t233.length co32) t233) := ⟨(by rw [hw]; exact (by (with_reducible repeat (first | apply Kd.R_alloc | apply Kd.R_drewN | apply Kd.R_drew)); exact Kd.R_mono (Kd.R_far (p := ⟨gb237, 1, none⟩) (Kd.R_far (p := ⟨gb237, 0, none⟩) (Kd.R_types HO235.out BK237.out (by decide)) (fun _ hk => hk.2) (.int .i64 t232)) (fun _ hk => hk.2) (.slice Ao32 t233.length co32)) (fun _ hk => hk.1.2)))⟩; have n3_ : Aside0 (w33.heap[gb228]? = some (.cells #[.int .i64 x229000_1, .slice Ao25 x229001_1.length co25] 28 (0, 0))) := ⟨(by rw [hw]; exact (by (with_reducible repeat (first | refine blk_drewN ?_ _ | refine blk_drew ?_ | refine blk_alloc ?_ _)); refine blk_far ?_ NB228_237.out _; (with_reducible repeat (first | refine blk_drewN ?_ _ | refine blk_drew ?_ | refine blk_alloc ?_ _)); refine blk_far ?_ NB228_237.out _; (with_reducible repeat (first | refine blk_drewN ?_ _ | refine blk_drew ?_ | refine blk_alloc ?_ _)); exact BK228.out))⟩; have n4_ : Aside0 (w33.heap[gb229]? = some (.cells #[.int .i64 x230000_1, u230001] 24 (0, 0))) := ⟨(by rw [hw]; exact (by (with_reducible repeat (first | refine blk_drewN ?_ _ | refine blk_drew ?_ | refine blk_alloc ?_ _)); refine blk_far ?_ NB229_237.out _; (with_reducible repeat (first | refine blk_drewN ?_ _ | refine blk_drew ?_ | refine blk_alloc ?_ _)); refine blk_far ?_ NB229_237.out _; (with_reducible repeat (first | refine blk_drewN ?_ _ | refine blk_drew ?_ | refine blk_alloc ?_ _)); exact BK229.out))⟩; have n5_ : Aside0 (w33.heap[gb231]? = some (.cells #[.int .u8 ((rd_T54 l0 x5_1).f0), .int .i64 ((rd_T54 l0 x5_1).f1), .int .i64 ((rd_T54 l0 x5_1).f2)] 54 (0, 0))) := ⟨(by rw [hw]; exact (by (with_reducible repeat (first | refine blk_drewN ?_ _ | refine blk_drew ?_ | refine blk_alloc ?_ _)); refine blk_far ?_ NB231_237.out _; (with_reducible repeat (first | refine blk_drewN ?_ _ | refine blk_drew ?_ | refine blk_alloc ?_ _)); refine blk_far ?_ NB231_237.out _; (with_reducible repeat (first | refine blk_drewN ?_ _ | refine blk_drew ?_ | refine blk_alloc ?_ _)); exact BK231.out))⟩; have n6_ : Aside0 (w33.heap[gb237]? = some (.cells #[.int .i64 t232, .slice Ao32 t233.length co32] 28 (0, 0))) := ⟨(by rw [hw]; exact (by (with_reducible repeat (first | refine blk_drewN ?_ _ | refine blk_drew ?_ | refine blk_alloc ?_ _)); refine blk_put (cs := #[.int .i64 t232, .slice none 0 0]) ?_ 1 _ rfl; (with_reducible repeat (first | refine blk_drewN ?_ _ | refine blk_drew ?_ | refine blk_alloc ?_ _)); refine blk_put (cs := #[.int .i64 0, .slice none 0 0]) ?_ 0 _ rfl; (with_reducible repeat (first | refine blk_drewN ?_ _ | refine blk_drew ?_ | refine blk_alloc ?_ _)); exact BK237.out))⟩; have n7_ : Aside0 (Below w.heap.size w w33) := ⟨(by rw [hw]; exact (by repeat (first | (with_reducible first | exact HB.out | apply below_alloc | apply pw_below_drewN | apply below_drew1 | refine below_set ?_ GE228.out | refine below_set ?_ GE229.out | refine below_set ?_ GE231.out | refine below_set ?_ GE237.out) | exact HB.out)))⟩; clear hw; clear HO_229001; clear HO_230001; clear HO235; clear BK228; clear BK229; clear BK231; clear BK237; clear HB; have HO_229001 := n0_; have HO_230001 := n1_; have HO235 := n2_; have BK228 := n3_; have BK229 := n4_; have BK231 := n5_; have BK237 := n6_; have HB := n7_; clear n0_ n1_ n2_ n3_ n4_ n5_ n6_ n7_; have hcz34_0 : w33.cell? ⟨gb229, 0, none⟩ = some (.int .i64 x230000_1) := (blk_cell BK229.out 0).trans rfl; have hcz34_1 : w33.cell? ⟨gb229, 1, none⟩ = some (u230001) := (blk_cell BK229.out 1).trans rfl; have hfz34_0 := blk_frozen BK229.out 0; have hfz34_1 := blk_frozen BK229.out 1; have hcz35_0 : w33.cell? ⟨gb231, 0, none⟩ = some (.int .u8 ((rd_T54 l0 x5_1).f0)) := (blk_cell BK231.out 0).trans rfl; have hcz35_1 : w33.cell? ⟨gb231, 1, none⟩ = some (.int .i64 ((rd_T54 l0 x5_1).f1)) := (blk_cell BK231.out 1).trans rfl; have hcz35_2 : w33.cell? ⟨gb231, 2, none⟩ = some (.int .i64 ((rd_T54 l0 x5_1).f2)) := (blk_cell BK231.out 2).trans rfl; have hfz35_0 := blk_frozen BK231.out 0; have hfz35_1 := blk_frozen BK231.out 1; have hfz35_2 := blk_frozen BK231.out 2; obtain ⟨Ao36, co36, eo36⟩ := Kd.R_slice HO_230001.out; subst eo36) | ((with_reducible refine gate_callee (f := 15) rfl ?_); refine goesL_ (some 77) rfl rfl Try.func15 (by kernel_rfl) rfl #[.agg #[.int .i64 x230000_1, .slice Ao36 x230001_1.length co36], .int .i64 ((rd_T54 l0 x5_1).f1)] rfl (by (try simp only [List.map_toArray, List.map_cons, List.map_nil]); first | done | rfl | (simp only [List.length_drop, List.length_take]; rfl)) ?_; (with_reducible refine (waystationref06_Stop.calls kj6 x230000_1 (fun k_ => some k_ = (.slice Ao36 x230001_1.length co36 : Value).ownBlock) (.slice Ao36 x230001_1.length co36) x230001_1 ((rd_T54 l0 x5_1).f1) t238 t239 t242 w _ ?side1 ?side2 A19.out).mono ?_); (case side1 => repeat (first | (with_reducible first | exact HB.out | apply below_alloc | apply pw_below_drewN | apply below_drew1 | refine below_set ?_ GE228.out | refine below_set ?_ GE229.out | refine below_set ?_ GE231.out | refine below_set ?_ GE237.out) | exact HB.out)); (case side2 => exact Kd.R_tight rfl HO_230001.out); rintro e w37 ⟨v240, rfl, ho0, hb, hkp⟩; refine ⟨_, rfl, ?_⟩; have n0_ := Aside0.mk (Kd.Q_mono (ok' := fun k_ => some k_ ≠ (.slice Ao32 t233.length co32 : Value).ownBlock) (Kd.Q_keptB ((Kd.Q_apart' HO_229001.out (Kd.R_typed HO_230001.out) (by decide))) hkp (fun k_ hk_ hs_ => (hk_.2) hs_)) (fun k_ hk_ => hk_.1.1)); have n1_ := Aside0.mk (blk_kept (by (with_reducible repeat (first | refine blk_drewN ?_ _ | refine blk_drew ?_ | refine blk_alloc ?_ _)); exact BK228.out) hkp (fun hs_ => (fun e_ => (Kd.R_ne HO_230001.out BK228.out (by decide)) e_) hs_)); have n2_ := Aside0.mk (blk_kept (by (with_reducible repeat (first | refine blk_drewN ?_ _ | refine blk_drew ?_ | refine blk_alloc ?_ _)); exact BK229.out) hkp (fun hs_ => (fun e_ => (Kd.R_ne HO_230001.out BK229.out (by decide)) e_) hs_)); have n3_ := Aside0.mk (blk_kept (by (with_reducible repeat (first | refine blk_drewN ?_ _ | refine blk_drew ?_ | refine blk_alloc ?_ _)); exact BK231.out) hkp (fun hs_ => (fun e_ => (Kd.R_ne HO_230001.out BK231.out (by decide)) e_) hs_)); have n4_ := Aside0.mk (Kd.R_mono (ok' := fun k_ => some k_ ≠ (.slice Ao25 x229001_1.length co25 : Value).ownBlock) (Kd.R_keptB ((Kd.R_apart' HO235.out (Kd.R_typed HO_230001.out) (by decide))) hkp (fun k_ hk_ hs_ => (hk_.2) hs_)) (fun k_ hk_ => hk_.1.1)); have n5_ := Aside0.mk (blk_kept (by (with_reducible repeat (first | refine blk_drewN ?_ _ | refine blk_drew ?_ | refine blk_alloc ?_ _)); exact BK237.out) hkp (fun hs_ => (fun e_ => (Kd.R_ne HO_230001.out BK237.out (by decide)) e_) hs_)); have n6_ := Aside0.mk (Kd.R_mono (ok' := fun k_ => True) ho0 (fun k_ hk_ => trivial)); have n7_ := Aside0.mk (hb); clear HO_229001; clear BK228; clear BK229; clear BK231; clear HO235; clear BK237; clear HB; clear HO_230001; have HO_229001 := n0_; have BK228 := n1_; have BK229 := n2_; have BK231 := n3_; have HO235 := n4_; have BK237 := n5_; have HO241 := n6_; have HB := n7_; clear n0_ n1_ n2_ n3_ n4_ n5_ n6_ n7_; (try clear hb); (try clear hkp); (try clear ho0)) | ((with_reducible refine gate_dst (N := 10) rfl ?_); refine box_event ?hg (N := 10) ?hd (cs := #[.int .i64 0, .slice none 0 0]) (t := 24) ?hr ?_; (case hd => rfl); (case hg => rfl); (case hr => first | (go_simp; done) | (go_simp; rfl)); intro gb243 hg w38 hbox hb; have n0_ := Aside0.mk (Kd.Q_below (by (with_reducible repeat (first | apply Kd.Q_alloc | apply Kd.Q_drewN | apply Kd.Q_drew)); exact HO_229001.out) hb); have n1_ := Aside0.mk (Kd.R_below (by (with_reducible repeat (first | apply Kd.R_alloc | apply Kd.R_drewN | apply Kd.R_drew)); exact HO235.out) hb); have n2_ := Aside0.mk (Kd.R_below (by (with_reducible repeat (first | apply Kd.R_alloc | apply Kd.R_drewN | apply Kd.R_drew)); exact HO241.out) hb); have n3_ := Aside0.mk (blk_below (g := gb228) (o := .cells #[.int .i64 x229000_1, .slice Ao25 x229001_1.length co25] 28 (0, 0)) (by (with_reducible repeat (first | refine blk_drewN ?_ _ | refine blk_drew ?_ | refine blk_alloc ?_ _)); exact BK228.out) hb); have n4_ := Aside0.mk (blk_below (g := gb229) (o := .cells #[.int .i64 x230000_1, .slice Ao36 x230001_1.length co36] 24 (0, 0)) (by (with_reducible repeat (first | refine blk_drewN ?_ _ | refine blk_drew ?_ | refine blk_alloc ?_ _)); exact BK229.out) hb); have n5_ := Aside0.mk (blk_below (g := gb231) (o := .cells #[.int .u8 ((rd_T54 l0 x5_1).f0), .int .i64 ((rd_T54 l0 x5_1).f1), .int .i64 ((rd_T54 l0 x5_1).f2)] 54 (0, 0)) (by (with_reducible repeat (first | refine blk_drewN ?_ _ | refine blk_drew ?_ | refine blk_alloc ?_ _)); exact BK231.out) hb); have n6_ := Aside0.mk (blk_below (g := gb237) (o := .cells #[.int .i64 t232, .slice Ao32 t233.length co32] 28 (0, 0)) (by (with_reducible repeat (first | refine blk_drewN ?_ _ | refine blk_drew ?_ | refine blk_alloc ?_ _)); exact BK237.out) hb); have n7_ := Aside0.mk (below_step (by repeat (first | (with_reducible first | exact HB.out | apply below_alloc | apply pw_below_drewN | apply below_drew1 | refine below_set ?_ GE228.out | refine below_set ?_ GE229.out | refine below_set ?_ GE231.out | refine below_set ?_ GE237.out) | exact HB.out)) hb); have n8_ := Aside0.mk (hbox); have n9_ := Aside0.mk ((by rw [hg]; exact (below_size (by repeat (first | (with_reducible first | exact HB.out | apply below_alloc | apply pw_below_drewN | apply below_drew1 | refine below_set ?_ GE228.out | refine below_set ?_ GE229.out | refine below_set ?_ GE231.out | refine below_set ?_ GE237.out) | exact HB.out))) : w.heap.size ≤ gb243)); have n10_ := Aside0.mk ((by rw [hg]; exact (below_size (by repeat (first | (with_reducible first | exact HB.out | apply below_alloc | apply pw_below_drewN | apply below_drew1 | refine below_set ?_ GE228.out | refine below_set ?_ GE229.out | refine below_set ?_ GE231.out | refine below_set ?_ GE237.out) | exact HB.out))) : w.heap.size ≤ gb243)); have n11_ := Aside0.mk ((by rw [hg]; exact Nat.ne_of_lt (blk_lt (g := gb228) (o := .cells #[.int .i64 x229000_1, .slice Ao25 x229001_1.length co25] 28 (0, 0)) (by (with_reducible repeat (first | refine blk_drewN ?_ _ | refine blk_drew ?_ | refine blk_alloc ?_ _)); exact BK228.out)) : gb228 ≠ gb243)); have n12_ := Aside0.mk ((by rw [hg]; exact Nat.ne_of_gt (blk_lt (g := gb228) (o := .cells #[.int .i64 x229000_1, .slice Ao25 x229001_1.length co25] 28 (0, 0)) (by (with_reducible repeat (first | refine blk_drewN ?_ _ | refine blk_drew ?_ | refine blk_alloc ?_ _)); exact BK228.out)) : gb243 ≠ gb228)); have n13_ := Aside0.mk ((by rw [hg]; exact Nat.ne_of_lt (blk_lt (g := gb229) (o := .cells #[.int .i64 x230000_1, .slice Ao36 x230001_1.length co36] 24 (0, 0)) (by (with_reducible repeat (first | refine blk_drewN ?_ _ | refine blk_drew ?_ | refine blk_alloc ?_ _)); exact BK229.out)) : gb229 ≠ gb243)); have n14_ := Aside0.mk ((by rw [hg]; exact Nat.ne_of_gt (blk_lt (g := gb229) (o := .cells #[.int .i64 x230000_1, .slice Ao36 x230001_1.length co36] 24 (0, 0)) (by (with_reducible repeat (first | refine blk_drewN ?_ _ | refine blk_drew ?_ | refine blk_alloc ?_ _)); exact BK229.out)) : gb243 ≠ gb229)); have n15_ := Aside0.mk ((by rw [hg]; exact Nat.ne_of_lt (blk_lt (g := gb231) (o := .cells #[.int .u8 ((rd_T54 l0 x5_1).f0), .int .i64 ((rd_T54 l0 x5_1).f1), .int .i64 ((rd_T54 l0 x5_1).f2)] 54 (0, 0)) (by (with_reducible repeat (first | refine blk_drewN ?_ _ | refine blk_drew ?_ | refine blk_alloc ?_ _)); exact BK231.out)) : gb231 ≠ gb243)); have n16_ := Aside0.mk ((by rw [hg]; exact Nat.ne_of_gt (blk_lt (g := gb231) (o := .cells #[.int .u8 ((rd_T54 l0 x5_1).f0), .int .i64 ((rd_T54 l0 x5_1).f1), .int .i64 ((rd_T54 l0 x5_1).f2)] 54 (0, 0)) (by (with_reducible repeat (first | refine blk_drewN ?_ _ | refine blk_drew ?_ | refine blk_alloc ?_ _)); exact BK231.out)) : gb243 ≠ gb231)); have n17_ := Aside0.mk ((by rw [hg]; exact Nat.ne_of_lt (blk_lt (g := gb237) (o := .cells #[.int .i64 t232, .slice Ao32 t233.length co32] 28 (0, 0)) (by (with_reducible repeat (first | refine blk_drewN ?_ _ | refine blk_drew ?_ | refine blk_alloc ?_ _)); exact BK237.out)) : gb237 ≠ gb243)); have n18_ := Aside0.mk ((by rw [hg]; exact Nat.ne_of_gt (blk_lt (g := gb237) (o := .cells #[.int .i64 t232, .slice Ao32 t233.length co32] 28 (0, 0)) (by (with_reducible repeat (first | refine blk_drewN ?_ _ | refine blk_drew ?_ | refine blk_alloc ?_ _)); exact BK237.out)) : gb243 ≠ gb237)); clear HO_229001; clear HO235; clear HO241; clear BK228; clear BK229; clear BK231; clear BK237; clear HB; have HO_229001 := n0_; have HO235 := n1_; have HO241 := n2_; have BK228 := n3_; have BK229 := n4_; have BK231 := n5_; have BK237 := n6_; have HB := n7_; have BK243 := n8_; have GW243 := n9_; have GE243 := n10_; have NB228_243 := n11_; have NB243_228 := n12_; have NB229_243 := n13_; have NB243_229 := n14_; have NB231_243 := n15_; have NB243_231 := n16_; have NB237_243 := n17_; have NB243_237 := n18_; clear n0_ n1_ n2_ n3_ n4_ n5_ n6_ n7_ n8_ n9_ n10_ n11_ n12_ n13_ n14_ n15_ n16_ n17_ n18_; clear hb hbox hg; have hnb39 := NB243_228.out; have hnc39 := NB228_243.out; have hnb40 := NB243_229.out; have hnc40 := NB229_243.out; have hnb41 := NB243_231.out; have hnc41 := NB231_243.out; have hnb42 := NB243_237.out; have hnc42 := NB237_243.out; have hcz43_0 : w38.cell? ⟨gb243, 0, none⟩ = some (.int .i64 0) := (blk_cell BK243.out 0).trans rfl; have hcz43_1 : w38.cell? ⟨gb243, 1, none⟩ = some (.slice none 0 0) := (blk_cell BK243.out 1).trans rfl; have hfz43_0 := blk_frozen BK243.out 0; have hfz43_1 := blk_frozen BK243.out 1; obtain ⟨Ao44, co44, eo44⟩ := Kd.R_slice HO241.out; subst eo44; have hcz45_0 : w38.cell? ⟨gb237, 0, none⟩ = some (.int .i64 t232) := (blk_cell BK237.out 0).trans rfl; have hcz45_1 : w38.cell? ⟨gb237, 1, none⟩ = some (.slice Ao32 t233.length co32) := (blk_cell BK237.out 1).trans rfl; have hfz45_0 := blk_frozen BK237.out 0; have hfz45_1 := blk_frozen BK237.out 1; have hcz46_0 : w38.cell? ⟨gb228, 0, none⟩ = some (.int .i64 x229000_1) := (blk_cell BK228.out 0).trans rfl; have hcz46_1 : w38.cell? ⟨gb228, 1, none⟩ = some (.slice Ao25 x229001_1.length co25) := (blk_cell BK228.out 1).trans rfl; have hfz46_0 := blk_frozen BK228.out 0; have hfz46_1 := blk_frozen BK228.out 1; have hcz47_0 : w38.cell? ⟨gb229, 0, none⟩ = some (.int .i64 x230000_1) := (blk_cell BK229.out 0).trans rfl; have hcz47_1 : w38.cell? ⟨gb229, 1, none⟩ = some (.slice Ao36 x230001_1.length co36) := (blk_cell BK229.out 1).trans rfl; have hfz47_0 := blk_frozen BK229.out 0; have hfz47_1 := blk_frozen BK229.out 1))
                      go_meet
                      case rel => exact ⟨_, ((t236 == t242)), (t232), (t233), (t238), (t239), (.slice Ao32 t233.length co32), (.slice Ao44 t239.length co44), (by first | rfl | (simp; done) | (simp [*]; done)), H', ⟨by have := HK1.out; have := HJ6.out; first | omega | exact Nat.le_refl _⟩, ⟨Kd.Q_of_R (by (with_reducible repeat (first | apply Kd.R_alloc | apply Kd.R_drewN | apply Kd.R_drew)); exact Kd.R_mono (Kd.R_far (p := ⟨gb229, 1, none⟩) (Kd.R_far (p := ⟨gb229, 0, none⟩) (Kd.R_far (p := ⟨gb228, 1, none⟩) (Kd.R_far (p := ⟨gb228, 0, none⟩) (Kd.R_far (p := ⟨gb243, 1, none⟩) (Kd.R_far (p := ⟨gb243, 0, none⟩) (Kd.R_types (Kd.R_types (Kd.R_types HO235.out BK243.out (by decide)) BK228.out (by decide)) BK229.out (by decide)) (fun _ hk => hk.1.1.2) (.int .i64 t238)) (fun _ hk => hk.1.1.2) (.slice Ao44 t239.length co44)) (fun _ hk => hk.1.2) (.int .i64 t232)) (fun _ hk => hk.1.2) (.slice Ao32 t233.length co32)) (fun _ hk => hk.2) (.int .i64 t238)) (fun _ hk => hk.2) (.slice Ao44 t239.length co44)) (fun _ hk => trivial))⟩, ⟨by (with_reducible repeat (first | apply Kd.R_alloc | apply Kd.R_drewN | apply Kd.R_drew)); exact Kd.R_mono (Kd.R_far (p := ⟨gb229, 1, none⟩) (Kd.R_far (p := ⟨gb229, 0, none⟩) (Kd.R_far (p := ⟨gb228, 1, none⟩) (Kd.R_far (p := ⟨gb228, 0, none⟩) (Kd.R_far (p := ⟨gb243, 1, none⟩) (Kd.R_far (p := ⟨gb243, 0, none⟩) (Kd.R_types (Kd.R_types (Kd.R_types HO241.out BK243.out (by decide)) BK228.out (by decide)) BK229.out (by decide)) (fun _ hk => hk.1.1.2) (.int .i64 t238)) (fun _ hk => hk.1.1.2) (.slice Ao44 t239.length co44)) (fun _ hk => hk.1.2) (.int .i64 t232)) (fun _ hk => hk.1.2) (.slice Ao32 t233.length co32)) (fun _ hk => hk.2) (.int .i64 t238)) (fun _ hk => hk.2) (.slice Ao44 t239.length co44)) (fun _ hk => trivial)⟩, ⟨by (with_reducible repeat (first | refine blk_drewN ?_ _ | refine blk_drew ?_ | refine blk_alloc ?_ _)); refine blk_far ?_ NB228_229.out _; (with_reducible repeat (first | refine blk_drewN ?_ _ | refine blk_drew ?_ | refine blk_alloc ?_ _)); refine blk_far ?_ NB228_229.out _; (with_reducible repeat (first | refine blk_drewN ?_ _ | refine blk_drew ?_ | refine blk_alloc ?_ _)); refine blk_put (cs := #[.int .i64 t232, .slice Ao25 x229001_1.length co25]) ?_ 1 _ rfl; (with_reducible repeat (first | refine blk_drewN ?_ _ | refine blk_drew ?_ | refine blk_alloc ?_ _)); refine blk_put (cs := #[.int .i64 x229000_1, .slice Ao25 x229001_1.length co25]) ?_ 0 _ rfl; (with_reducible repeat (first | refine blk_drewN ?_ _ | refine blk_drew ?_ | refine blk_alloc ?_ _)); refine blk_far ?_ NB228_243.out _; (with_reducible repeat (first | refine blk_drewN ?_ _ | refine blk_drew ?_ | refine blk_alloc ?_ _)); refine blk_far ?_ NB228_243.out _; (with_reducible repeat (first | refine blk_drewN ?_ _ | refine blk_drew ?_ | refine blk_alloc ?_ _)); exact BK228.out⟩, ⟨by (with_reducible repeat (first | refine blk_drewN ?_ _ | refine blk_drew ?_ | refine blk_alloc ?_ _)); refine blk_put (cs := #[.int .i64 t238, .slice Ao36 x230001_1.length co36]) ?_ 1 _ rfl; (with_reducible repeat (first | refine blk_drewN ?_ _ | refine blk_drew ?_ | refine blk_alloc ?_ _)); refine blk_put (cs := #[.int .i64 x230000_1, .slice Ao36 x230001_1.length co36]) ?_ 0 _ rfl; (with_reducible repeat (first | refine blk_drewN ?_ _ | refine blk_drew ?_ | refine blk_alloc ?_ _)); refine blk_far ?_ NB229_228.out _; (with_reducible repeat (first | refine blk_drewN ?_ _ | refine blk_drew ?_ | refine blk_alloc ?_ _)); refine blk_far ?_ NB229_228.out _; (with_reducible repeat (first | refine blk_drewN ?_ _ | refine blk_drew ?_ | refine blk_alloc ?_ _)); refine blk_far ?_ NB229_243.out _; (with_reducible repeat (first | refine blk_drewN ?_ _ | refine blk_drew ?_ | refine blk_alloc ?_ _)); refine blk_far ?_ NB229_243.out _; (with_reducible repeat (first | refine blk_drewN ?_ _ | refine blk_drew ?_ | refine blk_alloc ?_ _)); exact BK229.out⟩, ⟨by (with_reducible repeat (first | refine blk_drewN ?_ _ | refine blk_drew ?_ | refine blk_alloc ?_ _)); refine blk_far ?_ NB231_229.out _; (with_reducible repeat (first | refine blk_drewN ?_ _ | refine blk_drew ?_ | refine blk_alloc ?_ _)); refine blk_far ?_ NB231_229.out _; (with_reducible repeat (first | refine blk_drewN ?_ _ | refine blk_drew ?_ | refine blk_alloc ?_ _)); refine blk_far ?_ NB231_228.out _; (with_reducible repeat (first | refine blk_drewN ?_ _ | refine blk_drew ?_ | refine blk_alloc ?_ _)); refine blk_far ?_ NB231_228.out _; (with_reducible repeat (first | refine blk_drewN ?_ _ | refine blk_drew ?_ | refine blk_alloc ?_ _)); refine blk_far ?_ NB231_243.out _; (with_reducible repeat (first | refine blk_drewN ?_ _ | refine blk_drew ?_ | refine blk_alloc ?_ _)); refine blk_far ?_ NB231_243.out _; (with_reducible repeat (first | refine blk_drewN ?_ _ | refine blk_drew ?_ | refine blk_alloc ?_ _)); exact BK231.out⟩, ⟨by repeat (first | (with_reducible first | exact HB.out | apply below_alloc | apply pw_below_drewN | apply below_drew1 | refine below_set ?_ GE228.out | refine below_set ?_ GE229.out | refine below_set ?_ GE231.out | refine below_set ?_ GE237.out | refine below_set ?_ GE243.out) | exact HB.out)⟩⟩
                    · rw [if_neg c17] at H
                      have c17b0 : ((Int.tmod ((rd_T54 l0 x5_1).f0) 5) == 2) = false := beq_eq_false_iff_ne.mpr c17
                      have c17b1 : ((Int.tmod ((rd_T54 l0 x5_1).f0) 5) != 2) = true := bne_iff_ne.mpr c17
                      (first | rw [c17b0] | (simp only [i64_w, i32_w]; rw [c17b0]) | skip)
                      have HC48 := Aside0.mk H
                      clear H
                      go_upto_if 85 with (fail)
                      go_cut [85] (fun v85 wc => ∃ (kq : Nat) (x85_47 : Bool), v85 = .bool x85_47 ∧ Aside0 (waystationlaw06_WheelRow.j2 kq l0 x5_1 x85_47 x229000_1 x229001_1 x230000_1 x230001_1 ((rd_T54 l0 x5_1).f0) ((rd_T54 l0 x5_1).f1) ((rd_T54 l0 x5_1).f2) = some r) ∧ Aside0 (kq ≤ kj6) ∧ Aside0 (Kd.Q k64 64 wc w.heap.size (fun _ => True) u229001 x229001_1) ∧ Aside0 (Kd.R k46 46 wc w.heap.size (fun _ => True) u230001 x230001_1) ∧ Aside0 (wc.heap[gb228]? = some (.cells #[.int .i64 x229000_1, u229001] 28 (0, 0))) ∧ Aside0 (wc.heap[gb229]? = some (.cells #[.int .i64 x230000_1, u230001] 24 (0, 0))) ∧ Aside0 (wc.heap[gb231]? = some (.cells #[.int .u8 ((rd_T54 l0 x5_1).f0), .int .i64 ((rd_T54 l0 x5_1).f1), .int .i64 ((rd_T54 l0 x5_1).f2)] 54 (0, 0))) ∧ Aside0 (Below w.heap.size w wc))
                      case first =>
                        have H := HC48.out
                        clear HC48
                        by_cases c49 : (Int.tmod ((rd_T54 l0 x5_1).f0) 5) = 3
                        · rw [if_pos c49] at H
                          have c49b0 : ((Int.tmod ((rd_T54 l0 x5_1).f0) 5) == 3) = true := beq_iff_eq.mpr c49
                          have c49b1 : ((Int.tmod ((rd_T54 l0 x5_1).f0) 5) != 3) = false := bne_eq_false_iff_eq.mpr c49
                          clear c49
                          (first | rw [c49b0] | (simp only [i64_w, i32_w]; rw [c49b0]) | skip)
                          have H' := Aside0.mk H
                          clear H
                          go_wp2
                          go_meet
                          case rel => exact ⟨_, (((Int.tmod ((rd_T54 l0 x5_1).f0) 5) == 3)), (by first | rfl | (simp; done) | (simp [*]; done)), H', ⟨by have := HK1.out; have := HJ6.out; first | omega | exact Nat.le_refl _⟩, ⟨by (with_reducible repeat (first | apply Kd.Q_alloc | apply Kd.Q_drewN | apply Kd.Q_drew)); exact Kd.Q_mono (Kd.Q_far (p := ⟨gb231, 2, none⟩) (Kd.Q_far (p := ⟨gb231, 1, none⟩) (Kd.Q_far (p := ⟨gb231, 0, none⟩) (Kd.Q_types HO_229001.out BK231.out (by decide)) (fun _ hk => hk.2) (.int .u8 ((rd_T54 l0 x5_1).f0))) (fun _ hk => hk.2) (.int .i64 ((rd_T54 l0 x5_1).f1))) (fun _ hk => hk.2) (.int .i64 ((rd_T54 l0 x5_1).f2))) (fun _ hk => trivial)⟩, ⟨by (with_reducible repeat (first | apply Kd.R_alloc | apply Kd.R_drewN | apply Kd.R_drew)); exact Kd.R_mono (Kd.R_far (p := ⟨gb231, 2, none⟩) (Kd.R_far (p := ⟨gb231, 1, none⟩) (Kd.R_far (p := ⟨gb231, 0, none⟩) (Kd.R_types HO_230001.out BK231.out (by decide)) (fun _ hk => hk.2) (.int .u8 ((rd_T54 l0 x5_1).f0))) (fun _ hk => hk.2) (.int .i64 ((rd_T54 l0 x5_1).f1))) (fun _ hk => hk.2) (.int .i64 ((rd_T54 l0 x5_1).f2))) (fun _ hk => trivial)⟩, ⟨by (with_reducible repeat (first | refine blk_drewN ?_ _ | refine blk_drew ?_ | refine blk_alloc ?_ _)); refine blk_far ?_ NB228_231.out _; (with_reducible repeat (first | refine blk_drewN ?_ _ | refine blk_drew ?_ | refine blk_alloc ?_ _)); refine blk_far ?_ NB228_231.out _; (with_reducible repeat (first | refine blk_drewN ?_ _ | refine blk_drew ?_ | refine blk_alloc ?_ _)); refine blk_far ?_ NB228_231.out _; (with_reducible repeat (first | refine blk_drewN ?_ _ | refine blk_drew ?_ | refine blk_alloc ?_ _)); exact BK228.out⟩, ⟨by (with_reducible repeat (first | refine blk_drewN ?_ _ | refine blk_drew ?_ | refine blk_alloc ?_ _)); refine blk_far ?_ NB229_231.out _; (with_reducible repeat (first | refine blk_drewN ?_ _ | refine blk_drew ?_ | refine blk_alloc ?_ _)); refine blk_far ?_ NB229_231.out _; (with_reducible repeat (first | refine blk_drewN ?_ _ | refine blk_drew ?_ | refine blk_alloc ?_ _)); refine blk_far ?_ NB229_231.out _; (with_reducible repeat (first | refine blk_drewN ?_ _ | refine blk_drew ?_ | refine blk_alloc ?_ _)); exact BK229.out⟩, ⟨by (with_reducible repeat (first | refine blk_drewN ?_ _ | refine blk_drew ?_ | refine blk_alloc ?_ _)); refine blk_put (cs := #[.int .u8 ((rd_T54 l0 x5_1).f0), .int .i64 ((rd_T54 l0 x5_1).f1), .int .i64 0]) ?_ 2 _ rfl; (with_reducible repeat (first | refine blk_drewN ?_ _ | refine blk_drew ?_ | refine blk_alloc ?_ _)); refine blk_put (cs := #[.int .u8 ((rd_T54 l0 x5_1).f0), .int .i64 0, .int .i64 0]) ?_ 1 _ rfl; (with_reducible repeat (first | refine blk_drewN ?_ _ | refine blk_drew ?_ | refine blk_alloc ?_ _)); refine blk_put (cs := #[.int .u8 0, .int .i64 0, .int .i64 0]) ?_ 0 _ rfl; (with_reducible repeat (first | refine blk_drewN ?_ _ | refine blk_drew ?_ | refine blk_alloc ?_ _)); exact BK231.out⟩, ⟨by repeat (first | (with_reducible first | exact HB.out | apply below_alloc | apply pw_below_drewN | apply below_drew1 | refine below_set ?_ GE228.out | refine below_set ?_ GE229.out | refine below_set ?_ GE231.out) | exact HB.out)⟩⟩
                        · rw [if_neg c49] at H
                          have c49b0 : ((Int.tmod ((rd_T54 l0 x5_1).f0) 5) == 3) = false := beq_eq_false_iff_ne.mpr c49
                          have c49b1 : ((Int.tmod ((rd_T54 l0 x5_1).f0) 5) != 3) = true := bne_iff_ne.mpr c49
                          (first | rw [c49b0] | (simp only [i64_w, i32_w]; rw [c49b0]) | skip)
                          have H' := Aside0.mk H
                          clear H
                          go_wp2
                          go_meet
                          case rel => exact ⟨_, (((Int.tmod ((rd_T54 l0 x5_1).f0) 5) == 4)), (by first | rfl | (simp; done) | (simp [*]; done)), H', ⟨by have := HK1.out; have := HJ6.out; first | omega | exact Nat.le_refl _⟩, ⟨by (with_reducible repeat (first | apply Kd.Q_alloc | apply Kd.Q_drewN | apply Kd.Q_drew)); exact Kd.Q_mono (Kd.Q_far (p := ⟨gb231, 2, none⟩) (Kd.Q_far (p := ⟨gb231, 1, none⟩) (Kd.Q_far (p := ⟨gb231, 0, none⟩) (Kd.Q_types HO_229001.out BK231.out (by decide)) (fun _ hk => hk.2) (.int .u8 ((rd_T54 l0 x5_1).f0))) (fun _ hk => hk.2) (.int .i64 ((rd_T54 l0 x5_1).f1))) (fun _ hk => hk.2) (.int .i64 ((rd_T54 l0 x5_1).f2))) (fun _ hk => trivial)⟩, ⟨by (with_reducible repeat (first | apply Kd.R_alloc | apply Kd.R_drewN | apply Kd.R_drew)); exact Kd.R_mono (Kd.R_far (p := ⟨gb231, 2, none⟩) (Kd.R_far (p := ⟨gb231, 1, none⟩) (Kd.R_far (p := ⟨gb231, 0, none⟩) (Kd.R_types HO_230001.out BK231.out (by decide)) (fun _ hk => hk.2) (.int .u8 ((rd_T54 l0 x5_1).f0))) (fun _ hk => hk.2) (.int .i64 ((rd_T54 l0 x5_1).f1))) (fun _ hk => hk.2) (.int .i64 ((rd_T54 l0 x5_1).f2))) (fun _ hk => trivial)⟩, ⟨by (with_reducible repeat (first | refine blk_drewN ?_ _ | refine blk_drew ?_ | refine blk_alloc ?_ _)); refine blk_far ?_ NB228_231.out _; (with_reducible repeat (first | refine blk_drewN ?_ _ | refine blk_drew ?_ | refine blk_alloc ?_ _)); refine blk_far ?_ NB228_231.out _; (with_reducible repeat (first | refine blk_drewN ?_ _ | refine blk_drew ?_ | refine blk_alloc ?_ _)); refine blk_far ?_ NB228_231.out _; (with_reducible repeat (first | refine blk_drewN ?_ _ | refine blk_drew ?_ | refine blk_alloc ?_ _)); exact BK228.out⟩, ⟨by (with_reducible repeat (first | refine blk_drewN ?_ _ | refine blk_drew ?_ | refine blk_alloc ?_ _)); refine blk_far ?_ NB229_231.out _; (with_reducible repeat (first | refine blk_drewN ?_ _ | refine blk_drew ?_ | refine blk_alloc ?_ _)); refine blk_far ?_ NB229_231.out _; (with_reducible repeat (first | refine blk_drewN ?_ _ | refine blk_drew ?_ | refine blk_alloc ?_ _)); refine blk_far ?_ NB229_231.out _; (with_reducible repeat (first | refine blk_drewN ?_ _ | refine blk_drew ?_ | refine blk_alloc ?_ _)); exact BK229.out⟩, ⟨by (with_reducible repeat (first | refine blk_drewN ?_ _ | refine blk_drew ?_ | refine blk_alloc ?_ _)); refine blk_put (cs := #[.int .u8 ((rd_T54 l0 x5_1).f0), .int .i64 ((rd_T54 l0 x5_1).f1), .int .i64 0]) ?_ 2 _ rfl; (with_reducible repeat (first | refine blk_drewN ?_ _ | refine blk_drew ?_ | refine blk_alloc ?_ _)); refine blk_put (cs := #[.int .u8 ((rd_T54 l0 x5_1).f0), .int .i64 0, .int .i64 0]) ?_ 1 _ rfl; (with_reducible repeat (first | refine blk_drewN ?_ _ | refine blk_drew ?_ | refine blk_alloc ?_ _)); refine blk_put (cs := #[.int .u8 0, .int .i64 0, .int .i64 0]) ?_ 0 _ rfl; (with_reducible repeat (first | refine blk_drewN ?_ _ | refine blk_drew ?_ | refine blk_alloc ?_ _)); exact BK231.out⟩, ⟨by repeat (first | (with_reducible first | exact HB.out | apply below_alloc | apply pw_below_drewN | apply below_drew1 | refine below_set ?_ GE228.out | refine below_set ?_ GE229.out | refine below_set ?_ GE231.out) | exact HB.out)⟩⟩
                      case rest =>
                        clear HC48
                        try clear c1
                        try clear c2
                        try clear p2
                        try clear q2
                        try clear hx2
                        try clear c3
                        try clear c4
                        try clear c8
                        try clear c8b0
                        try clear c9
                        try clear c10
                        try clear c10b0
                        try clear c11
                        try clear c11b0
                        try clear c14
                        try clear c15
                        try clear c17
                        try clear c17b0
                        try clear c17b1
                        try clear c20
                        try clear c21
                        try clear c23
                        try clear p23
                        try clear q23
                        try clear hx23
                        try clear c28
                        try clear c29
                        try clear c30
                        try clear c39
                        try clear c40
                        try clear c41
                        try clear c42
                        try clear c49
                        try clear c49b0
                        try clear c49b1
                        try clear hcz16_0
                        try clear hcz16_1
                        try clear hcz16_2
                        try clear hcz22_0
                        try clear hcz22_1
                        try clear hcz24_0
                        try clear hcz24_1
                        try clear hcz24_2
                        try clear hcz31_0
                        try clear hcz31_1
                        try clear hcz34_0
                        try clear hcz34_1
                        try clear hcz35_0
                        try clear hcz35_1
                        try clear hcz35_2
                        try clear hcz43_0
                        try clear hcz43_1
                        try clear hcz45_0
                        try clear hcz45_1
                        try clear hcz46_0
                        try clear hcz46_1
                        try clear hcz47_0
                        try clear hcz47_1
                        try clear hfz16_0
                        try clear hfz16_1
                        try clear hfz16_2
                        try clear hfz22_0
                        try clear hfz22_1
                        try clear hfz24_0
                        try clear hfz24_1
                        try clear hfz24_2
                        try clear hfz31_0
                        try clear hfz31_1
                        try clear hfz34_0
                        try clear hfz34_1
                        try clear hfz35_0
                        try clear hfz35_1
                        try clear hfz35_2
                        try clear hfz43_0
                        try clear hfz43_1
                        try clear hfz45_0
                        try clear hfz45_1
                        try clear hfz46_0
                        try clear hfz46_1
                        try clear hfz47_0
                        try clear hfz47_1
                        try clear hx230_0
                        try clear hx230_1
                        try clear hx230_2
                        try clear p2
                        try clear p230
                        try clear q230
                        obtain ⟨kq, x85_47, rfl, HA, HJ47, HO_229001, HO_230001, BK228, BK229, BK231, HB⟩ := hcut
                        cases kq with
                        | zero => exact absurd HA.out (by simp [waystationlaw06_WheelRow.j2])
                        | succ kj47 =>
                          have H := HA.out
                          clear HA
                          simp only [waystationlaw06_WheelRow.j2] at H
                          by_cases c50 : x85_47 = true
                          · subst c50
                            have H1 : ((wheel_Tick.f x229000_1 x229001_1 ((rd_T54 l0 x5_1).f2)).bind fun bt244 => ((waystationref06_Tick.f kj47 x230000_1 x230001_1 ((rd_T54 l0 x5_1).f2)).bind fun bt253 => (if bt244.2.2.2 = bt253.2.2.2 then ((waystationlaw06_same.f kj47 bt244.2.2.1 bt253.2.2.1).bind fun t262 => (waystationlaw06_WheelRow.j3 kj47 l0 x5_1 t262 bt244.1 bt244.2.1 bt253.1 bt253.2.1)) else (waystationlaw06_WheelRow.j3 kj47 l0 x5_1 false bt244.1 bt244.2.1 bt253.1 bt253.2.1)))) = some r := by rw [if_pos rfl] at H; exact H
                            clear H
                            have H := H1
                            clear H1
                            replace H := Option.bind_eq_some_iff.mp H
                            obtain ⟨⟨t244, t245, t248, t251⟩, A510, H⟩ := H
                            replace H : ((waystationref06_Tick.f kj47 x230000_1 x230001_1 ((rd_T54 l0 x5_1).f2)).bind fun bt253 => (if t251 = bt253.2.2.2 then ((waystationlaw06_same.f kj47 t248 bt253.2.2.1).bind fun t262 => (waystationlaw06_WheelRow.j3 kj47 l0 x5_1 t262 t244 t245 bt253.1 bt253.2.1)) else (waystationlaw06_WheelRow.j3 kj47 l0 x5_1 false t244 t245 bt253.1 bt253.2.1))) = some r := H
                            have A51 := Aside0.mk A510
                            clear A510
                            replace H := Option.bind_eq_some_iff.mp H
                            obtain ⟨⟨t253, t254, t257, t260⟩, A520, H⟩ := H
                            replace H : (if t251 = t260 then ((waystationlaw06_same.f kj47 t248 t257).bind fun t262 => (waystationlaw06_WheelRow.j3 kj47 l0 x5_1 t262 t244 t245 t253 t254)) else (waystationlaw06_WheelRow.j3 kj47 l0 x5_1 false t244 t245 t253 t254)) = some r := H
                            have A52 := Aside0.mk A520
                            clear A520
                            by_cases c53 : t251 = t260
                            · rw [if_pos c53] at H
                              have c53b0 : (t251 == t260) = true := beq_iff_eq.mpr c53
                              have c53b1 : (t251 != t260) = false := bne_eq_false_iff_eq.mpr c53
                              clear c53
                              replace H := Option.bind_eq_some_iff.mp H
                              obtain ⟨t262, A540, H⟩ := H
                              replace H : (waystationlaw06_WheelRow.j3 kj47 l0 x5_1 t262 t244 t245 t253 t254) = some r := H
                              have A54 := Aside0.mk A540
                              clear A540
                              have H' := Aside0.mk H
                              clear H
                              have hnb55 := NB228_229.out
                              have hnc55 := NB229_228.out
                              have hnb56 := NB228_231.out
                              have hnc56 := NB231_228.out
                              have hcz57_0 : wc.cell? ⟨gb228, 0, none⟩ = some (.int .i64 x229000_1) := (blk_cell BK228.out 0).trans rfl
                              have hcz57_1 : wc.cell? ⟨gb228, 1, none⟩ = some (u229001) := (blk_cell BK228.out 1).trans rfl
                              have hfz57_0 := blk_frozen BK228.out 0
                              have hfz57_1 := blk_frozen BK228.out 1
                              have hnb58 := NB231_229.out
                              have hnc58 := NB229_231.out
                              have hcz59_0 : wc.cell? ⟨gb231, 0, none⟩ = some (.int .u8 ((rd_T54 l0 x5_1).f0)) := (blk_cell BK231.out 0).trans rfl
                              have hcz59_1 : wc.cell? ⟨gb231, 1, none⟩ = some (.int .i64 ((rd_T54 l0 x5_1).f1)) := (blk_cell BK231.out 1).trans rfl
                              have hcz59_2 : wc.cell? ⟨gb231, 2, none⟩ = some (.int .i64 ((rd_T54 l0 x5_1).f2)) := (blk_cell BK231.out 2).trans rfl
                              have hfz59_0 := blk_frozen BK231.out 0
                              have hfz59_1 := blk_frozen BK231.out 1
                              have hfz59_2 := blk_frozen BK231.out 2
                              obtain ⟨Ao60, co60, eo60, _⟩ := Kd.Q_slice HO_229001.out
                              subst eo60
                              go_wp2_with (first | ((with_reducible refine gate_callee (f := 16) rfl ?_); refine goesL_ (some 92) rfl rfl Try.func16 (by kernel_rfl) rfl #[.agg #[.int .i64 x229000_1, .slice Ao60 x229001_1.length co60], .int .i64 ((rd_T54 l0 x5_1).f2)] rfl (by (try simp only [List.map_toArray, List.map_cons, List.map_nil]); first | done | rfl | (simp only [List.length_drop, List.length_take]; rfl)) ?_; (with_reducible refine (wheel_Tick.calls x229000_1 _ _ x229001_1 ((rd_T54 l0 x5_1).f2) t244 t245 t248 t251 _ ?side1 ?side2 A51.out).mono ?_); (case side1 => repeat (first | exact (Kd.Q_reads' HO_229001.out).2.2 | (with_reducible refine Kd.C_alloc ?_ _) | (with_reducible refine Kd.C_drewN ?_ _) | (with_reducible refine Kd.C_drew ?_))); (case side2 => exact (Kd.Q_reads' HO_229001.out).2.1); rintro e w61 ⟨v246, v249, rfl, ho0, ho1, hb⟩; refine ⟨_, rfl, ?_⟩; have n0_ := Aside0.mk (Kd.Q_elder' (by (with_reducible repeat (first | apply Kd.Q_alloc | apply Kd.Q_drewN | apply Kd.Q_drew)); exact HO_229001.out) (Kd.Q_base ho0) hb); have n1_ := Aside0.mk (Kd.R_below (by (with_reducible repeat (first | apply Kd.R_alloc | apply Kd.R_drewN | apply Kd.R_drew)); exact HO_230001.out) hb); have n2_ := Aside0.mk (Kd.Q_lower (Kd.Q_new' ho0 (Kd.Q_lt (by (with_reducible repeat (first | apply Kd.Q_alloc | apply Kd.Q_drewN | apply Kd.Q_drew)); exact HO_229001.out))) (below_size (by repeat (first | (with_reducible first | exact HB.out | apply below_alloc | apply pw_below_drewN | apply below_drew1 | refine below_set ?_ GE228.out | refine below_set ?_ GE229.out | refine below_set ?_ GE231.out) | exact HB.out)))); have n3_ := Aside0.mk (Kd.R_lower ho1 (below_size (by repeat (first | (with_reducible first | exact HB.out | apply below_alloc | apply pw_below_drewN | apply below_drew1 | refine below_set ?_ GE228.out | refine below_set ?_ GE229.out | refine below_set ?_ GE231.out) | exact HB.out)))); have n4_ := Aside0.mk (blk_below (g := gb228) (o := .cells #[.int .i64 x229000_1, .slice Ao60 x229001_1.length co60] 28 (0, 0)) (by (with_reducible repeat (first | refine blk_drewN ?_ _ | refine blk_drew ?_ | refine blk_alloc ?_ _)); exact BK228.out) hb); have n5_ := Aside0.mk (blk_below (g := gb229) (o := .cells #[.int .i64 x230000_1, u230001] 24 (0, 0)) (by (with_reducible repeat (first | refine blk_drewN ?_ _ | refine blk_drew ?_ | refine blk_alloc ?_ _)); exact BK229.out) hb); have n6_ := Aside0.mk (blk_below (g := gb231) (o := .cells #[.int .u8 ((rd_T54 l0 x5_1).f0), .int .i64 ((rd_T54 l0 x5_1).f1), .int .i64 ((rd_T54 l0 x5_1).f2)] 54 (0, 0)) (by (with_reducible repeat (first | refine blk_drewN ?_ _ | refine blk_drew ?_ | refine blk_alloc ?_ _)); exact BK231.out) hb); have n7_ := Aside0.mk (below_step (by repeat (first | (with_reducible first | exact HB.out | apply below_alloc | apply pw_below_drewN | apply below_drew1 | refine below_set ?_ GE228.out | refine below_set ?_ GE229.out | refine below_set ?_ GE231.out) | exact HB.out)) hb); clear HO_229001; clear HO_230001; clear BK228; clear BK229; clear BK231; clear HB; have HO_229001 := n0_; have HO_230001 := n1_; have HO247 := n2_; have HO250 := n3_; have BK228 := n4_; have BK229 := n5_; have BK231 := n6_; have HB := n7_; clear n0_ n1_ n2_ n3_ n4_ n5_ n6_ n7_; (try clear hb); (try clear hb2); (try clear hk); (try clear hi); (try clear ho0); (try clear ho1)) | ((with_reducible refine gate_dst (N := 12) rfl ?_); refine box_event ?hg (N := 12) ?hd (cs := #[.int .i64 0, .slice none 0 0]) (t := 28) ?hr ?_; (case hd => rfl); (case hg => rfl); (case hr => first | (go_simp; done) | (go_simp; rfl)); intro gb252 hg w62 hbox hb; have n0_ := Aside0.mk (Kd.Q_below (by (with_reducible repeat (first | apply Kd.Q_alloc | apply Kd.Q_drewN | apply Kd.Q_drew)); exact HO_229001.out) hb); have n1_ := Aside0.mk (Kd.R_below (by (with_reducible repeat (first | apply Kd.R_alloc | apply Kd.R_drewN | apply Kd.R_drew)); exact HO_230001.out) hb); have n2_ := Aside0.mk (Kd.Q_below (by (with_reducible repeat (first | apply Kd.Q_alloc | apply Kd.Q_drewN | apply Kd.Q_drew)); exact HO247.out) hb); have n3_ := Aside0.mk (Kd.R_below (by (with_reducible repeat (first | apply Kd.R_alloc | apply Kd.R_drewN | apply Kd.R_drew)); exact HO250.out) hb); have n4_ := Aside0.mk (blk_below (g := gb228) (o := .cells #[.int .i64 x229000_1, .slice Ao60 x229001_1.length co60] 28 (0, 0)) (by (with_reducible repeat (first | refine blk_drewN ?_ _ | refine blk_drew ?_ | refine blk_alloc ?_ _)); exact BK228.out) hb); have n5_ := Aside0.mk (blk_below (g := gb229) (o := .cells #[.int .i64 x230000_1, u230001] 24 (0, 0)) (by (with_reducible repeat (first | refine blk_drewN ?_ _ | refine blk_drew ?_ | refine blk_alloc ?_ _)); exact BK229.out) hb); have n6_ := Aside0.mk (blk_below (g := gb231) (o := .cells #[.int .u8 ((rd_T54 l0 x5_1).f0), .int .i64 ((rd_T54 l0 x5_1).f1), .int .i64 ((rd_T54 l0 x5_1).f2)] 54 (0, 0)) (by (with_reducible repeat (first | refine blk_drewN ?_ _ | refine blk_drew ?_ | refine blk_alloc ?_ _)); exact BK231.out) hb); have n7_ := Aside0.mk (below_step (by repeat (first | (with_reducible first | exact HB.out | apply below_alloc | apply pw_below_drewN | apply below_drew1 | refine below_set ?_ GE228.out | refine below_set ?_ GE229.out | refine below_set ?_ GE231.out) | exact HB.out)) hb); have n8_ := Aside0.mk (hbox); have n9_ := Aside0.mk ((by rw [hg]; exact (below_size (by repeat (first | (with_reducible first | exact HB.out | apply below_alloc | apply pw_below_drewN | apply below_drew1 | refine below_set ?_ GE228.out | refine below_set ?_ GE229.out | refine below_set ?_ GE231.out) | exact HB.out))) : w.heap.size ≤ gb252)); have n10_ := Aside0.mk ((by rw [hg]; exact (below_size (by repeat (first | (with_reducible first | exact HB.out | apply below_alloc | apply pw_below_drewN | apply below_drew1 | refine below_set ?_ GE228.out | refine below_set ?_ GE229.out | refine below_set ?_ GE231.out) | exact HB.out))) : w.heap.size ≤ gb252)); have n11_ := Aside0.mk ((by rw [hg]; exact Nat.ne_of_lt (blk_lt (g := gb228) (o := .cells #[.int .i64 x229000_1, .slice Ao60 x229001_1.length co60] 28 (0, 0)) (by (with_reducible repeat (first | refine blk_drewN ?_ _ | refine blk_drew ?_ | refine blk_alloc ?_ _)); exact BK228.out)) : gb228 ≠ gb252)); have n12_ := Aside0.mk ((by rw [hg]; exact Nat.ne_of_gt (blk_lt (g := gb228) (o := .cells #[.int .i64 x229000_1, .slice Ao60 x229001_1.length co60] 28 (0, 0)) (by (with_reducible repeat (first | refine blk_drewN ?_ _ | refine blk_drew ?_ | refine blk_alloc ?_ _)); exact BK228.out)) : gb252 ≠ gb228)); have n13_ := Aside0.mk ((by rw [hg]; exact Nat.ne_of_lt (blk_lt (g := gb229) (o := .cells #[.int .i64 x230000_1, u230001] 24 (0, 0)) (by (with_reducible repeat (first | refine blk_drewN ?_ _ | refine blk_drew ?_ | refine blk_alloc ?_ _)); exact BK229.out)) : gb229 ≠ gb252)); have n14_ := Aside0.mk ((by rw [hg]; exact Nat.ne_of_gt (blk_lt (g := gb229) (o := .cells #[.int .i64 x230000_1, u230001] 24 (0, 0)) (by (with_reducible repeat (first | refine blk_drewN ?_ _ | refine blk_drew ?_ | refine blk_alloc ?_ _)); exact BK229.out)) : gb252 ≠ gb229)); have n15_ := Aside0.mk ((by rw [hg]; exact Nat.ne_of_lt (blk_lt (g := gb231) (o := .cells #[.int .u8 ((rd_T54 l0 x5_1).f0), .int .i64 ((rd_T54 l0 x5_1).f1), .int .i64 ((rd_T54 l0 x5_1).f2)] 54 (0, 0)) (by (with_reducible repeat (first | refine blk_drewN ?_ _ | refine blk_drew ?_ | refine blk_alloc ?_ _)); exact BK231.out)) : gb231 ≠ gb252)); have n16_ := Aside0.mk ((by rw [hg]; exact Nat.ne_of_gt (blk_lt (g := gb231) (o := .cells #[.int .u8 ((rd_T54 l0 x5_1).f0), .int .i64 ((rd_T54 l0 x5_1).f1), .int .i64 ((rd_T54 l0 x5_1).f2)] 54 (0, 0)) (by (with_reducible repeat (first | refine blk_drewN ?_ _ | refine blk_drew ?_ | refine blk_alloc ?_ _)); exact BK231.out)) : gb252 ≠ gb231)); clear HO_229001; clear HO_230001; clear HO247; clear HO250; clear BK228; clear BK229; clear BK231; clear HB; have HO_229001 := n0_; have HO_230001 := n1_; have HO247 := n2_; have HO250 := n3_; have BK228 := n4_; have BK229 := n5_; have BK231 := n6_; have HB := n7_; have BK252 := n8_; have GW252 := n9_; have GE252 := n10_; have NB228_252 := n11_; have NB252_228 := n12_; have NB229_252 := n13_; have NB252_229 := n14_; have NB231_252 := n15_; have NB252_231 := n16_; clear n0_ n1_ n2_ n3_ n4_ n5_ n6_ n7_ n8_ n9_ n10_ n11_ n12_ n13_ n14_ n15_ n16_; clear hb hbox hg; have hnb63 := NB252_228.out; have hnc63 := NB228_252.out; have hnb64 := NB252_229.out; have hnc64 := NB229_252.out; have hnb65 := NB252_231.out; have hnc65 := NB231_252.out; have hcz66_0 : w62.cell? ⟨gb252, 0, none⟩ = some (.int .i64 0) := (blk_cell BK252.out 0).trans rfl; have hcz66_1 : w62.cell? ⟨gb252, 1, none⟩ = some (.slice none 0 0) := (blk_cell BK252.out 1).trans rfl; have hfz66_0 := blk_frozen BK252.out 0; have hfz66_1 := blk_frozen BK252.out 1; obtain ⟨Ao67, co67, eo67, _⟩ := Kd.Q_slice HO247.out; subst eo67) | ((with_reducible refine gate_store (t := 28) (p := 12) rfl ?_); refine store_event (t := 28) (p := 12) (v := ?vo_w68) (w1 := ((w62.setCell ⟨gb252, 0, none⟩ (.int .i64 t244)).setCell ⟨gb252, 1, none⟩ (.slice Ao67 t245.length co67))) ?hg ?ho ?hn ?hr ?_; (case ho => rfl); (case hg => rfl); (case hn => rfl); (case hr => first | (go_simp; done) | (go_simp; rfl)); intro w68 hw; have n0_ : Aside0 (Kd.Q k64 64 w68 w.heap.size (fun k_ => some k_ ≠ (.slice Ao67 t245.length co67 : Value).ownBlock) (.slice Ao60 x229001_1.length co60) x229001_1) := ⟨(by rw [hw]; exact (by (with_reducible repeat (first | apply Kd.Q_alloc | apply Kd.Q_drewN | apply Kd.Q_drew)); exact Kd.Q_mono (Kd.Q_far (p := ⟨gb252, 1, none⟩) (Kd.Q_far (p := ⟨gb252, 0, none⟩) (Kd.Q_types HO_229001.out BK252.out (by decide)) (fun _ hk => hk.2) (.int .i64 t244)) (fun _ hk => hk.2) (.slice Ao67 t245.length co67)) (fun _ hk => hk.1.2)))⟩; have n1_ : Aside0 (Kd.R k46 46 w68 w.heap.size (fun _ => True) u230001 x230001_1) := ⟨(by rw [hw]; exact (by (with_reducible repeat (first | apply Kd.R_alloc | apply Kd.R_drewN | apply Kd.R_drew)); exact Kd.R_mono (Kd.R_far (p := ⟨gb252, 1, none⟩) (Kd.R_far (p := ⟨gb252, 0, none⟩) (Kd.R_types HO_230001.out BK252.out (by decide)) (fun _ hk => hk.2) (.int .i64 t244)) (fun _ hk => hk.2) (.slice Ao67 t245.length co67)) (fun _ hk => trivial)))⟩; have n2_ : Aside0 (Kd.Q k64 64 w68 w.heap.size (fun k_ => some k_ ≠ (.slice Ao60 x229001_1.length co60 : Value).ownBlock) (.slice Ao67 t245.length co67) t245) := ⟨(by rw [hw]; exact (by (with_reducible repeat (first | apply Kd.Q_alloc | apply Kd.Q_drewN | apply Kd.Q_drew)); exact Kd.Q_mono (Kd.Q_far (p := ⟨gb252, 1, none⟩) (Kd.Q_far (p := ⟨gb252, 0, none⟩) (Kd.Q_types HO247.out BK252.out (by decide)) (fun _ hk => hk.2) (.int .i64 t244)) (fun _ hk => hk.2) (.slice Ao67 t245.length co67)) (fun _ hk => hk.1.2)))⟩; have n3_ : Aside0 (Kd.R (Kd.int .i64) 3 w68 w.heap.size (fun _ => True) v249 t248) := ⟨(by rw [hw]; exact (by (with_reducible repeat (first | apply Kd.R_alloc | apply Kd.R_drewN | apply Kd.R_drew)); exact Kd.R_mono (Kd.R_far (p := ⟨gb252, 1, none⟩) (Kd.R_far (p := ⟨gb252, 0, none⟩) (Kd.R_types HO250.out BK252.out (by decide)) (fun _ hk => hk.2) (.int .i64 t244)) (fun _ hk => hk.2) (.slice Ao67 t245.length co67)) (fun _ hk => trivial)))⟩; have n4_ : Aside0 (w68.heap[gb228]? = some (.cells #[.int .i64 x229000_1, .slice Ao60 x229001_1.length co60] 28 (0, 0))) := ⟨(by rw [hw]; exact (by (with_reducible repeat (first | refine blk_drewN ?_ _ | refine blk_drew ?_ | refine blk_alloc ?_ _)); refine blk_far ?_ NB228_252.out _; (with_reducible repeat (first | refine blk_drewN ?_ _ | refine blk_drew ?_ | refine blk_alloc ?_ _)); refine blk_far ?_ NB228_252.out _; (with_reducible repeat (first | refine blk_drewN ?_ _ | refine blk_drew ?_ | refine blk_alloc ?_ _)); exact BK228.out))⟩; have n5_ : Aside0 (w68.heap[gb229]? = some (.cells #[.int .i64 x230000_1, u230001] 24 (0, 0))) := ⟨(by rw [hw]; exact (by (with_reducible repeat (first | refine blk_drewN ?_ _ | refine blk_drew ?_ | refine blk_alloc ?_ _)); refine blk_far ?_ NB229_252.out _; (with_reducible repeat (first | refine blk_drewN ?_ _ | refine blk_drew ?_ | refine blk_alloc ?_ _)); refine blk_far ?_ NB229_252.out _; (with_reducible repeat (first | refine blk_drewN ?_ _ | refine blk_drew ?_ | refine blk_alloc ?_ _)); exact BK229.out))⟩; have n6_ : Aside0 (w68.heap[gb231]? = some (.cells #[.int .u8 ((rd_T54 l0 x5_1).f0), .int .i64 ((rd_T54 l0 x5_1).f1), .int .i64 ((rd_T54 l0 x5_1).f2)] 54 (0, 0))) := ⟨(by rw [hw]; exact (by (with_reducible repeat (first | refine blk_drewN ?_ _ | refine blk_drew ?_ | refine blk_alloc ?_ _)); refine blk_far ?_ NB231_252.out _; (with_reducible repeat (first | refine blk_drewN ?_ _ | refine blk_drew ?_ | refine blk_alloc ?_ _)); refine blk_far ?_ NB231_252.out _; (with_reducible repeat (first | refine blk_drewN ?_ _ | refine blk_drew ?_ | refine blk_alloc ?_ _)); exact BK231.out))⟩; have n7_ : Aside0 (w68.heap[gb252]? = some (.cells #[.int .i64 t244, .slice Ao67 t245.length co67] 28 (0, 0))) := ⟨(by rw [hw]; exact (by (with_reducible repeat (first | refine blk_drewN ?_ _ | refine blk_drew ?_ | refine blk_alloc ?_ _)); refine blk_put (cs := #[.int .i64 t244, .slice none 0 0]) ?_ 1 _ rfl; (with_reducible repeat (first | refine blk_drewN ?_ _ | refine blk_drew ?_ | refine blk_alloc ?_ _)); refine blk_put (cs := #[.int .i64 0, .slice none 0 0]) ?_ 0 _ rfl; (with_reducible repeat (first | refine blk_drewN ?_ _ | refine blk_drew ?_ | refine blk_alloc ?_ _)); exact BK252.out))⟩; have n8_ : Aside0 (Below w.heap.size w w68) := ⟨(by rw [hw]; exact (by repeat (first | (with_reducible first | exact HB.out | apply below_alloc | apply pw_below_drewN | apply below_drew1 | refine below_set ?_ GE228.out | refine below_set ?_ GE229.out | refine below_set ?_ GE231.out | refine below_set ?_ GE252.out) | exact HB.out)))⟩; clear hw; clear HO_229001; clear HO_230001; clear HO247; clear HO250; clear BK228; clear BK229; clear BK231; clear BK252; clear HB; have HO_229001 := n0_; have HO_230001 := n1_; have HO247 := n2_; have HO250 := n3_; have BK228 := n4_; have BK229 := n5_; have BK231 := n6_; have BK252 := n7_; have HB := n8_; clear n0_ n1_ n2_ n3_ n4_ n5_ n6_ n7_ n8_; have hcz69_0 : w68.cell? ⟨gb229, 0, none⟩ = some (.int .i64 x230000_1) := (blk_cell BK229.out 0).trans rfl; have hcz69_1 : w68.cell? ⟨gb229, 1, none⟩ = some (u230001) := (blk_cell BK229.out 1).trans rfl; have hfz69_0 := blk_frozen BK229.out 0; have hfz69_1 := blk_frozen BK229.out 1; have hcz70_0 : w68.cell? ⟨gb231, 0, none⟩ = some (.int .u8 ((rd_T54 l0 x5_1).f0)) := (blk_cell BK231.out 0).trans rfl; have hcz70_1 : w68.cell? ⟨gb231, 1, none⟩ = some (.int .i64 ((rd_T54 l0 x5_1).f1)) := (blk_cell BK231.out 1).trans rfl; have hcz70_2 : w68.cell? ⟨gb231, 2, none⟩ = some (.int .i64 ((rd_T54 l0 x5_1).f2)) := (blk_cell BK231.out 2).trans rfl; have hfz70_0 := blk_frozen BK231.out 0; have hfz70_1 := blk_frozen BK231.out 1; have hfz70_2 := blk_frozen BK231.out 2; obtain ⟨Ao71, co71, eo71⟩ := Kd.R_slice HO_230001.out; subst eo71) | ((with_reducible refine gate_callee (f := 17) rfl ?_); refine goesL_ (some 100) rfl rfl Try.func17 (by kernel_rfl) rfl #[.agg #[.int .i64 x230000_1, .slice Ao71 x230001_1.length co71], .int .i64 ((rd_T54 l0 x5_1).f2)] rfl (by (try simp only [List.map_toArray, List.map_cons, List.map_nil]); first | done | rfl | (simp only [List.length_drop, List.length_take]; rfl)) ?_; (with_reducible refine (waystationref06_Tick.calls kj47 x230000_1 (fun k_ => some k_ = (.slice Ao71 x230001_1.length co71 : Value).ownBlock) (.slice Ao71 x230001_1.length co71) x230001_1 ((rd_T54 l0 x5_1).f2) t253 t254 t257 t260 w _ ?side1 ?side2 A52.out).mono ?_); (case side1 => repeat (first | (with_reducible first | exact HB.out | apply below_alloc | apply pw_below_drewN | apply below_drew1 | refine below_set ?_ GE228.out | refine below_set ?_ GE229.out | refine below_set ?_ GE231.out | refine below_set ?_ GE252.out) | exact HB.out)); (case side2 => exact Kd.R_tight rfl HO_230001.out); rintro e w72 ⟨v255, v258, rfl, ho0, ho1, hb, hkp⟩; refine ⟨_, rfl, ?_⟩; have n0_ := Aside0.mk (Kd.Q_mono (ok' := fun k_ => some k_ ≠ (.slice Ao67 t245.length co67 : Value).ownBlock) (Kd.Q_keptB ((Kd.Q_apart' HO_229001.out (Kd.R_typed HO_230001.out) (by decide))) hkp (fun k_ hk_ hs_ => (hk_.2) hs_)) (fun k_ hk_ => hk_.1.1)); have n1_ := Aside0.mk (blk_kept (by (with_reducible repeat (first | refine blk_drewN ?_ _ | refine blk_drew ?_ | refine blk_alloc ?_ _)); exact BK228.out) hkp (fun hs_ => (fun e_ => (Kd.R_ne HO_230001.out BK228.out (by decide)) e_) hs_)); have n2_ := Aside0.mk (blk_kept (by (with_reducible repeat (first | refine blk_drewN ?_ _ | refine blk_drew ?_ | refine blk_alloc ?_ _)); exact BK229.out) hkp (fun hs_ => (fun e_ => (Kd.R_ne HO_230001.out BK229.out (by decide)) e_) hs_)); have n3_ := Aside0.mk (blk_kept (by (with_reducible repeat (first | refine blk_drewN ?_ _ | refine blk_drew ?_ | refine blk_alloc ?_ _)); exact BK231.out) hkp (fun hs_ => (fun e_ => (Kd.R_ne HO_230001.out BK231.out (by decide)) e_) hs_)); have n4_ := Aside0.mk (Kd.Q_mono (ok' := fun k_ => some k_ ≠ (.slice Ao60 x229001_1.length co60 : Value).ownBlock) (Kd.Q_keptB ((Kd.Q_apart' HO247.out (Kd.R_typed HO_230001.out) (by decide))) hkp (fun k_ hk_ hs_ => (hk_.2) hs_)) (fun k_ hk_ => hk_.1.1)); have n5_ := Aside0.mk (Kd.R_mono (ok' := fun k_ => some k_ ≠ (v258 : Value).ownBlock) (Kd.R_keptB ((Kd.R_apart' HO250.out (Kd.R_typed HO_230001.out) (by decide))) hkp (fun k_ hk_ hs_ => (hk_.2) hs_)) (fun k_ hk_ => fun e_ => Or.elim (ho1.1 k_ e_.symm) (fun hs_ => hk_.2.1 hs_) (fun hn_ => Nat.not_le.2 hk_.2.2 hn_))); have n6_ := Aside0.mk (blk_kept (by (with_reducible repeat (first | refine blk_drewN ?_ _ | refine blk_drew ?_ | refine blk_alloc ?_ _)); exact BK252.out) hkp (fun hs_ => (fun e_ => (Kd.R_ne HO_230001.out BK252.out (by decide)) e_) hs_)); have n7_ := Aside0.mk (Kd.R_mono (ok' := fun k_ => True) ho0 (fun k_ hk_ => trivial)); have n8_ := Aside0.mk (Kd.R_mono (ok' := fun k_ => some k_ ≠ (v249 : Value).ownBlock) ho1 (fun k_ hk_ => Or.elim hk_ (fun hs_ => fun e_ => ((((Kd.R_apart' HO250.out (Kd.R_typed HO_230001.out) (by decide))).1 k_ e_.symm).2) hs_) (fun hn_ => (Kd.fresh' (Kd.R_lt (by (with_reducible repeat (first | apply Kd.R_alloc | apply Kd.R_drewN | apply Kd.R_drew)); exact HO250.out)) k_ hn_)))); have n9_ := Aside0.mk (hb); clear HO_229001; clear BK228; clear BK229; clear BK231; clear HO247; clear HO250; clear BK252; clear HB; clear HO_230001; have HO_229001 := n0_; have BK228 := n1_; have BK229 := n2_; have BK231 := n3_; have HO247 := n4_; have HO250 := n5_; have BK252 := n6_; have HO256 := n7_; have HO259 := n8_; have HB := n9_; clear n0_ n1_ n2_ n3_ n4_ n5_ n6_ n7_ n8_ n9_; (try clear hb); (try clear hkp); (try clear ho0); (try clear ho1)) | ((with_reducible refine gate_dst (N := 15) rfl ?_); refine box_event ?hg (N := 15) ?hd (cs := #[.int .i64 0, .slice none 0 0]) (t := 24) ?hr ?_; (case hd => rfl); (case hg => rfl); (case hr => first | (go_simp; done) | (go_simp; rfl)); intro gb261 hg w73 hbox hb; have n0_ := Aside0.mk (Kd.Q_below (by (with_reducible repeat (first | apply Kd.Q_alloc | apply Kd.Q_drewN | apply Kd.Q_drew)); exact HO_229001.out) hb); have n1_ := Aside0.mk (Kd.Q_below (by (with_reducible repeat (first | apply Kd.Q_alloc | apply Kd.Q_drewN | apply Kd.Q_drew)); exact HO247.out) hb); have n2_ := Aside0.mk (Kd.R_below (by (with_reducible repeat (first | apply Kd.R_alloc | apply Kd.R_drewN | apply Kd.R_drew)); exact HO250.out) hb); have n3_ := Aside0.mk (Kd.R_below (by (with_reducible repeat (first | apply Kd.R_alloc | apply Kd.R_drewN | apply Kd.R_drew)); exact HO256.out) hb); have n4_ := Aside0.mk (Kd.R_below (by (with_reducible repeat (first | apply Kd.R_alloc | apply Kd.R_drewN | apply Kd.R_drew)); exact HO259.out) hb); have n5_ := Aside0.mk (blk_below (g := gb228) (o := .cells #[.int .i64 x229000_1, .slice Ao60 x229001_1.length co60] 28 (0, 0)) (by (with_reducible repeat (first | refine blk_drewN ?_ _ | refine blk_drew ?_ | refine blk_alloc ?_ _)); exact BK228.out) hb); have n6_ := Aside0.mk (blk_below (g := gb229) (o := .cells #[.int .i64 x230000_1, .slice Ao71 x230001_1.length co71] 24 (0, 0)) (by (with_reducible repeat (first | refine blk_drewN ?_ _ | refine blk_drew ?_ | refine blk_alloc ?_ _)); exact BK229.out) hb); have n7_ := Aside0.mk (blk_below (g := gb231) (o := .cells #[.int .u8 ((rd_T54 l0 x5_1).f0), .int .i64 ((rd_T54 l0 x5_1).f1), .int .i64 ((rd_T54 l0 x5_1).f2)] 54 (0, 0)) (by (with_reducible repeat (first | refine blk_drewN ?_ _ | refine blk_drew ?_ | refine blk_alloc ?_ _)); exact BK231.out) hb); have n8_ := Aside0.mk (blk_below (g := gb252) (o := .cells #[.int .i64 t244, .slice Ao67 t245.length co67] 28 (0, 0)) (by (with_reducible repeat (first | refine blk_drewN ?_ _ | refine blk_drew ?_ | refine blk_alloc ?_ _)); exact BK252.out) hb); have n9_ := Aside0.mk (below_step (by repeat (first | (with_reducible first | exact HB.out | apply below_alloc | apply pw_below_drewN | apply below_drew1 | refine below_set ?_ GE228.out | refine below_set ?_ GE229.out | refine below_set ?_ GE231.out | refine below_set ?_ GE252.out) | exact HB.out)) hb); have n10_ := Aside0.mk (hbox); have n11_ := Aside0.mk ((by rw [hg]; exact (below_size (by repeat (first | (with_reducible first | exact HB.out | apply below_alloc | apply pw_below_drewN | apply below_drew1 | refine below_set ?_ GE228.out | refine below_set ?_ GE229.out | refine below_set ?_ GE231.out | refine below_set ?_ GE252.out) | exact HB.out))) : w.heap.size ≤ gb261)); have n12_ := Aside0.mk ((by rw [hg]; exact (below_size (by repeat (first | (with_reducible first | exact HB.out | apply below_alloc | apply pw_below_drewN | apply below_drew1 | refine below_set ?_ GE228.out | refine below_set ?_ GE229.out | refine below_set ?_ GE231.out | refine below_set ?_ GE252.out) | exact HB.out))) : w.heap.size ≤ gb261)); have n13_ := Aside0.mk ((by rw [hg]; exact Nat.ne_of_lt (blk_lt (g := gb228) (o := .cells #[.int .i64 x229000_1, .slice Ao60 x229001_1.length co60] 28 (0, 0)) (by (with_reducible repeat (first | refine blk_drewN ?_ _ | refine blk_drew ?_ | refine blk_alloc ?_ _)); exact BK228.out)) : gb228 ≠ gb261)); have n14_ := Aside0.mk ((by rw [hg]; exact Nat.ne_of_gt (blk_lt (g := gb228) (o := .cells #[.int .i64 x229000_1, .slice Ao60 x229001_1.length co60] 28 (0, 0)) (by (with_reducible repeat (first | refine blk_drewN ?_ _ | refine blk_drew ?_ | refine blk_alloc ?_ _)); exact BK228.out)) : gb261 ≠ gb228)); have n15_ := Aside0.mk ((by rw [hg]; exact Nat.ne_of_lt (blk_lt (g := gb229) (o := .cells #[.int .i64 x230000_1, .slice Ao71 x230001_1.length co71] 24 (0, 0)) (by (with_reducible repeat (first | refine blk_drewN ?_ _ | refine blk_drew ?_ | refine blk_alloc ?_ _)); exact BK229.out)) : gb229 ≠ gb261)); have n16_ := Aside0.mk ((by rw [hg]; exact Nat.ne_of_gt (blk_lt (g := gb229) (o := .cells #[.int .i64 x230000_1, .slice Ao71 x230001_1.length co71] 24 (0, 0)) (by (with_reducible repeat (first | refine blk_drewN ?_ _ | refine blk_drew ?_ | refine blk_alloc ?_ _)); exact BK229.out)) : gb261 ≠ gb229)); have n17_ := Aside0.mk ((by rw [hg]; exact Nat.ne_of_lt (blk_lt (g := gb231) (o := .cells #[.int .u8 ((rd_T54 l0 x5_1).f0), .int .i64 ((rd_T54 l0 x5_1).f1), .int .i64 ((rd_T54 l0 x5_1).f2)] 54 (0, 0)) (by (with_reducible repeat (first | refine blk_drewN ?_ _ | refine blk_drew ?_ | refine blk_alloc ?_ _)); exact BK231.out)) : gb231 ≠ gb261)); have n18_ := Aside0.mk ((by rw [hg]; exact Nat.ne_of_gt (blk_lt (g := gb231) (o := .cells #[.int .u8 ((rd_T54 l0 x5_1).f0), .int .i64 ((rd_T54 l0 x5_1).f1), .int .i64 ((rd_T54 l0 x5_1).f2)] 54 (0, 0)) (by (with_reducible repeat (first | refine blk_drewN ?_ _ | refine blk_drew ?_ | refine blk_alloc ?_ _)); exact BK231.out)) : gb261 ≠ gb231)); have n19_ := Aside0.mk ((by rw [hg]; exact Nat.ne_of_lt (blk_lt (g := gb252) (o := .cells #[.int .i64 t244, .slice Ao67 t245.length co67] 28 (0, 0)) (by (with_reducible repeat (first | refine blk_drewN ?_ _ | refine blk_drew ?_ | refine blk_alloc ?_ _)); exact BK252.out)) : gb252 ≠ gb261)); have n20_ := Aside0.mk ((by rw [hg]; exact Nat.ne_of_gt (blk_lt (g := gb252) (o := .cells #[.int .i64 t244, .slice Ao67 t245.length co67] 28 (0, 0)) (by (with_reducible repeat (first | refine blk_drewN ?_ _ | refine blk_drew ?_ | refine blk_alloc ?_ _)); exact BK252.out)) : gb261 ≠ gb252)); clear HO_229001; clear HO247; clear HO250; clear HO256; clear HO259; clear BK228; clear BK229; clear BK231; clear BK252; clear HB; have HO_229001 := n0_; have HO247 := n1_; have HO250 := n2_; have HO256 := n3_; have HO259 := n4_; have BK228 := n5_; have BK229 := n6_; have BK231 := n7_; have BK252 := n8_; have HB := n9_; have BK261 := n10_; have GW261 := n11_; have GE261 := n12_; have NB228_261 := n13_; have NB261_228 := n14_; have NB229_261 := n15_; have NB261_229 := n16_; have NB231_261 := n17_; have NB261_231 := n18_; have NB252_261 := n19_; have NB261_252 := n20_; clear n0_ n1_ n2_ n3_ n4_ n5_ n6_ n7_ n8_ n9_ n10_ n11_ n12_ n13_ n14_ n15_ n16_ n17_ n18_ n19_ n20_; clear hb hbox hg; have hnb74 := NB261_228.out; have hnc74 := NB228_261.out; have hnb75 := NB261_229.out; have hnc75 := NB229_261.out; have hnb76 := NB261_231.out; have hnc76 := NB231_261.out; have hnb77 := NB261_252.out; have hnc77 := NB252_261.out; have hcz78_0 : w73.cell? ⟨gb261, 0, none⟩ = some (.int .i64 0) := (blk_cell BK261.out 0).trans rfl; have hcz78_1 : w73.cell? ⟨gb261, 1, none⟩ = some (.slice none 0 0) := (blk_cell BK261.out 1).trans rfl; have hfz78_0 := blk_frozen BK261.out 0; have hfz78_1 := blk_frozen BK261.out 1; obtain ⟨Ao79, co79, eo79⟩ := Kd.R_slice HO256.out; subst eo79; have hcz80_0 : w73.cell? ⟨gb252, 0, none⟩ = some (.int .i64 t244) := (blk_cell BK252.out 0).trans rfl; have hcz80_1 : w73.cell? ⟨gb252, 1, none⟩ = some (.slice Ao67 t245.length co67) := (blk_cell BK252.out 1).trans rfl; have hfz80_0 := blk_frozen BK252.out 0; have hfz80_1 := blk_frozen BK252.out 1; have hcz81_0 : w73.cell? ⟨gb228, 0, none⟩ = some (.int .i64 x229000_1) := (blk_cell BK228.out 0).trans rfl; have hcz81_1 : w73.cell? ⟨gb228, 1, none⟩ = some (.slice Ao60 x229001_1.length co60) := (blk_cell BK228.out 1).trans rfl; have hfz81_0 := blk_frozen BK228.out 0; have hfz81_1 := blk_frozen BK228.out 1; have hcz82_0 : w73.cell? ⟨gb229, 0, none⟩ = some (.int .i64 x230000_1) := (blk_cell BK229.out 0).trans rfl; have hcz82_1 : w73.cell? ⟨gb229, 1, none⟩ = some (.slice Ao71 x230001_1.length co71) := (blk_cell BK229.out 1).trans rfl; have hfz82_0 := blk_frozen BK229.out 0; have hfz82_1 := blk_frozen BK229.out 1; obtain ⟨Ao83, co83, eo83⟩ := Kd.R_slice HO250.out; subst eo83; obtain ⟨Ao84, co84, eo84⟩ := Kd.R_slice HO259.out; subst eo84) | (go_at_call 23; (with_reducible refine (waystationlaw06_same.calls kj47 _ _ t248 _ _ t257 t262 _ ?side1 ?side2 ?side3 ?side4 A54.out).mono ?_); (case side1 => refine (Kd.R_reads' (e := 3) (base := w.heap.size) (ok := fun k_ => some k_ ≠ (.slice Ao84 t257.length co84 : Value).ownBlock) (n := t248.length) (c := co83) ?_).2.2; exact (by (with_reducible repeat (first | apply Kd.R_alloc | apply Kd.R_drewN | apply Kd.R_drew)); exact (Kd.R_mono (Kd.R_mono (Kd.R_mono (Kd.R_far (p := ⟨gb229, 1, none⟩) (Kd.R_far (p := ⟨gb229, 0, none⟩) (Kd.R_far (p := ⟨gb228, 1, none⟩) (Kd.R_far (p := ⟨gb228, 0, none⟩) (Kd.R_far (p := ⟨gb261, 1, none⟩) (Kd.R_far (p := ⟨gb261, 0, none⟩) (Kd.R_types (Kd.R_types (Kd.R_types HO250.out BK261.out (by decide)) BK228.out (by decide)) BK229.out (by decide)) (fun _ hk => hk.1.1.2) (.int .i64 t253)) (fun _ hk => hk.1.1.2) (.slice Ao79 t254.length co79)) (fun _ hk => hk.1.2) (.int .i64 t244)) (fun _ hk => hk.1.2) (.slice Ao67 t245.length co67)) (fun _ hk => hk.2) (.int .i64 t253)) (fun _ hk => hk.2) (.slice Ao79 t254.length co79)) (fun _ h_ => h_.1)) (fun _ h_ => h_.1)) (fun _ h_ => h_.1)))); (case side2 => exact (Kd.R_reads' HO250.out).2.1); (case side3 => refine (Kd.R_reads' (e := 3) (base := w.heap.size) (ok := fun k_ => some k_ ≠ (.slice Ao83 t248.length co83 : Value).ownBlock) (n := t257.length) (c := co84) ?_).2.2; exact (by (with_reducible repeat (first | apply Kd.R_alloc | apply Kd.R_drewN | apply Kd.R_drew)); exact (Kd.R_mono (Kd.R_mono (Kd.R_mono (Kd.R_far (p := ⟨gb229, 1, none⟩) (Kd.R_far (p := ⟨gb229, 0, none⟩) (Kd.R_far (p := ⟨gb228, 1, none⟩) (Kd.R_far (p := ⟨gb228, 0, none⟩) (Kd.R_far (p := ⟨gb261, 1, none⟩) (Kd.R_far (p := ⟨gb261, 0, none⟩) (Kd.R_types (Kd.R_types (Kd.R_types HO259.out BK261.out (by decide)) BK228.out (by decide)) BK229.out (by decide)) (fun _ hk => hk.1.1.2) (.int .i64 t253)) (fun _ hk => hk.1.1.2) (.slice Ao79 t254.length co79)) (fun _ hk => hk.1.2) (.int .i64 t244)) (fun _ hk => hk.1.2) (.slice Ao67 t245.length co67)) (fun _ hk => hk.2) (.int .i64 t253)) (fun _ hk => hk.2) (.slice Ao79 t254.length co79)) (fun _ h_ => h_.1)) (fun _ h_ => h_.1)) (fun _ h_ => h_.1)))); (case side4 => exact (Kd.R_reads' HO259.out).2.1); rintro e w' ⟨rfl, ⟨nd, rfl⟩⟩))
                              go_meet
                              case rel => exact ⟨_, (t262), (t244), (t245), (t253), (t254), (.slice Ao67 t245.length co67), (.slice Ao79 t254.length co79), (by first | rfl | (simp; done) | (simp [*]; done)), H', ⟨by have := HK1.out; have := HJ6.out; have := HJ47.out; first | omega | exact Nat.le_refl _⟩, ⟨by (with_reducible repeat (first | apply Kd.Q_alloc | apply Kd.Q_drewN | apply Kd.Q_drew)); exact Kd.Q_mono (Kd.Q_far (p := ⟨gb229, 1, none⟩) (Kd.Q_far (p := ⟨gb229, 0, none⟩) (Kd.Q_far (p := ⟨gb228, 1, none⟩) (Kd.Q_far (p := ⟨gb228, 0, none⟩) (Kd.Q_far (p := ⟨gb261, 1, none⟩) (Kd.Q_far (p := ⟨gb261, 0, none⟩) (Kd.Q_types (Kd.Q_types (Kd.Q_types HO247.out BK261.out (by decide)) BK228.out (by decide)) BK229.out (by decide)) (fun _ hk => hk.1.1.2) (.int .i64 t253)) (fun _ hk => hk.1.1.2) (.slice Ao79 t254.length co79)) (fun _ hk => hk.1.2) (.int .i64 t244)) (fun _ hk => hk.1.2) (.slice Ao67 t245.length co67)) (fun _ hk => hk.2) (.int .i64 t253)) (fun _ hk => hk.2) (.slice Ao79 t254.length co79)) (fun _ hk => trivial)⟩, ⟨by (with_reducible repeat (first | apply Kd.R_alloc | apply Kd.R_drewN | apply Kd.R_drew)); exact Kd.R_mono (Kd.R_far (p := ⟨gb229, 1, none⟩) (Kd.R_far (p := ⟨gb229, 0, none⟩) (Kd.R_far (p := ⟨gb228, 1, none⟩) (Kd.R_far (p := ⟨gb228, 0, none⟩) (Kd.R_far (p := ⟨gb261, 1, none⟩) (Kd.R_far (p := ⟨gb261, 0, none⟩) (Kd.R_types (Kd.R_types (Kd.R_types HO256.out BK261.out (by decide)) BK228.out (by decide)) BK229.out (by decide)) (fun _ hk => hk.1.1.2) (.int .i64 t253)) (fun _ hk => hk.1.1.2) (.slice Ao79 t254.length co79)) (fun _ hk => hk.1.2) (.int .i64 t244)) (fun _ hk => hk.1.2) (.slice Ao67 t245.length co67)) (fun _ hk => hk.2) (.int .i64 t253)) (fun _ hk => hk.2) (.slice Ao79 t254.length co79)) (fun _ hk => trivial)⟩, ⟨by (with_reducible repeat (first | refine blk_drewN ?_ _ | refine blk_drew ?_ | refine blk_alloc ?_ _)); refine blk_far ?_ NB228_229.out _; (with_reducible repeat (first | refine blk_drewN ?_ _ | refine blk_drew ?_ | refine blk_alloc ?_ _)); refine blk_far ?_ NB228_229.out _; (with_reducible repeat (first | refine blk_drewN ?_ _ | refine blk_drew ?_ | refine blk_alloc ?_ _)); refine blk_put (cs := #[.int .i64 t244, .slice Ao60 x229001_1.length co60]) ?_ 1 _ rfl; (with_reducible repeat (first | refine blk_drewN ?_ _ | refine blk_drew ?_ | refine blk_alloc ?_ _)); refine blk_put (cs := #[.int .i64 x229000_1, .slice Ao60 x229001_1.length co60]) ?_ 0 _ rfl; (with_reducible repeat (first | refine blk_drewN ?_ _ | refine blk_drew ?_ | refine blk_alloc ?_ _)); refine blk_far ?_ NB228_261.out _; (with_reducible repeat (first | refine blk_drewN ?_ _ | refine blk_drew ?_ | refine blk_alloc ?_ _)); refine blk_far ?_ NB228_261.out _; (with_reducible repeat (first | refine blk_drewN ?_ _ | refine blk_drew ?_ | refine blk_alloc ?_ _)); exact BK228.out⟩, ⟨by (with_reducible repeat (first | refine blk_drewN ?_ _ | refine blk_drew ?_ | refine blk_alloc ?_ _)); refine blk_put (cs := #[.int .i64 t253, .slice Ao71 x230001_1.length co71]) ?_ 1 _ rfl; (with_reducible repeat (first | refine blk_drewN ?_ _ | refine blk_drew ?_ | refine blk_alloc ?_ _)); refine blk_put (cs := #[.int .i64 x230000_1, .slice Ao71 x230001_1.length co71]) ?_ 0 _ rfl; (with_reducible repeat (first | refine blk_drewN ?_ _ | refine blk_drew ?_ | refine blk_alloc ?_ _)); refine blk_far ?_ NB229_228.out _; (with_reducible repeat (first | refine blk_drewN ?_ _ | refine blk_drew ?_ | refine blk_alloc ?_ _)); refine blk_far ?_ NB229_228.out _; (with_reducible repeat (first | refine blk_drewN ?_ _ | refine blk_drew ?_ | refine blk_alloc ?_ _)); refine blk_far ?_ NB229_261.out _; (with_reducible repeat (first | refine blk_drewN ?_ _ | refine blk_drew ?_ | refine blk_alloc ?_ _)); refine blk_far ?_ NB229_261.out _; (with_reducible repeat (first | refine blk_drewN ?_ _ | refine blk_drew ?_ | refine blk_alloc ?_ _)); exact BK229.out⟩, ⟨by (with_reducible repeat (first | refine blk_drewN ?_ _ | refine blk_drew ?_ | refine blk_alloc ?_ _)); refine blk_far ?_ NB231_229.out _; (with_reducible repeat (first | refine blk_drewN ?_ _ | refine blk_drew ?_ | refine blk_alloc ?_ _)); refine blk_far ?_ NB231_229.out _; (with_reducible repeat (first | refine blk_drewN ?_ _ | refine blk_drew ?_ | refine blk_alloc ?_ _)); refine blk_far ?_ NB231_228.out _; (with_reducible repeat (first | refine blk_drewN ?_ _ | refine blk_drew ?_ | refine blk_alloc ?_ _)); refine blk_far ?_ NB231_228.out _; (with_reducible repeat (first | refine blk_drewN ?_ _ | refine blk_drew ?_ | refine blk_alloc ?_ _)); refine blk_far ?_ NB231_261.out _; (with_reducible repeat (first | refine blk_drewN ?_ _ | refine blk_drew ?_ | refine blk_alloc ?_ _)); refine blk_far ?_ NB231_261.out _; (with_reducible repeat (first | refine blk_drewN ?_ _ | refine blk_drew ?_ | refine blk_alloc ?_ _)); exact BK231.out⟩, ⟨by repeat (first | (with_reducible first | exact HB.out | apply below_alloc | apply pw_below_drewN | apply below_drew1 | refine below_set ?_ GE228.out | refine below_set ?_ GE229.out | refine below_set ?_ GE231.out | refine below_set ?_ GE252.out | refine below_set ?_ GE261.out) | exact HB.out)⟩⟩
                            · rw [if_neg c53] at H
                              have c53b0 : (t251 == t260) = false := beq_eq_false_iff_ne.mpr c53
                              have c53b1 : (t251 != t260) = true := bne_iff_ne.mpr c53
                              have H' := Aside0.mk H
                              clear H
                              have hnb85 := NB228_229.out
                              have hnc85 := NB229_228.out
                              have hnb86 := NB228_231.out
                              have hnc86 := NB231_228.out
                              have hcz87_0 : wc.cell? ⟨gb228, 0, none⟩ = some (.int .i64 x229000_1) := (blk_cell BK228.out 0).trans rfl
                              have hcz87_1 : wc.cell? ⟨gb228, 1, none⟩ = some (u229001) := (blk_cell BK228.out 1).trans rfl
                              have hfz87_0 := blk_frozen BK228.out 0
                              have hfz87_1 := blk_frozen BK228.out 1
                              have hnb88 := NB231_229.out
                              have hnc88 := NB229_231.out
                              have hcz89_0 : wc.cell? ⟨gb231, 0, none⟩ = some (.int .u8 ((rd_T54 l0 x5_1).f0)) := (blk_cell BK231.out 0).trans rfl
                              have hcz89_1 : wc.cell? ⟨gb231, 1, none⟩ = some (.int .i64 ((rd_T54 l0 x5_1).f1)) := (blk_cell BK231.out 1).trans rfl
                              have hcz89_2 : wc.cell? ⟨gb231, 2, none⟩ = some (.int .i64 ((rd_T54 l0 x5_1).f2)) := (blk_cell BK231.out 2).trans rfl
                              have hfz89_0 := blk_frozen BK231.out 0
                              have hfz89_1 := blk_frozen BK231.out 1
                              have hfz89_2 := blk_frozen BK231.out 2
                              obtain ⟨Ao90, co90, eo90, _⟩ := Kd.Q_slice HO_229001.out
                              subst eo90
                              go_wp2_with (first | ((with_reducible refine gate_callee (f := 16) rfl ?_); refine goesL_ (some 92) rfl rfl Try.func16 (by kernel_rfl) rfl #[.agg #[.int .i64 x229000_1, .slice Ao90 x229001_1.length co90], .int .i64 ((rd_T54 l0 x5_1).f2)] rfl (by (try simp only [List.map_toArray, List.map_cons, List.map_nil]); first | done | rfl | (simp only [List.length_drop, List.length_take]; rfl)) ?_; (with_reducible refine (wheel_Tick.calls x229000_1 _ _ x229001_1 ((rd_T54 l0 x5_1).f2) t244 t245 t248 t251 _ ?side1 ?side2 A51.out).mono ?_); (case side1 => repeat (first | exact (Kd.Q_reads' HO_229001.out).2.2 | (with_reducible refine Kd.C_alloc ?_ _) | (with_reducible refine Kd.C_drewN ?_ _) | (with_reducible refine Kd.C_drew ?_))); (case side2 => exact (Kd.Q_reads' HO_229001.out).2.1); rintro e w91 ⟨v246, v249, rfl, ho0, ho1, hb⟩; refine ⟨_, rfl, ?_⟩; have n0_ := Aside0.mk (Kd.Q_elder' (by (with_reducible repeat (first | apply Kd.Q_alloc | apply Kd.Q_drewN | apply Kd.Q_drew)); exact HO_229001.out) (Kd.Q_base ho0) hb); have n1_ := Aside0.mk (Kd.R_below (by (with_reducible repeat (first | apply Kd.R_alloc | apply Kd.R_drewN | apply Kd.R_drew)); exact HO_230001.out) hb); have n2_ := Aside0.mk (Kd.Q_lower (Kd.Q_new' ho0 (Kd.Q_lt (by (with_reducible repeat (first | apply Kd.Q_alloc | apply Kd.Q_drewN | apply Kd.Q_drew)); exact HO_229001.out))) (below_size (by repeat (first | (with_reducible first | exact HB.out | apply below_alloc | apply pw_below_drewN | apply below_drew1 | refine below_set ?_ GE228.out | refine below_set ?_ GE229.out | refine below_set ?_ GE231.out) | exact HB.out)))); have n3_ := Aside0.mk (Kd.R_lower ho1 (below_size (by repeat (first | (with_reducible first | exact HB.out | apply below_alloc | apply pw_below_drewN | apply below_drew1 | refine below_set ?_ GE228.out | refine below_set ?_ GE229.out | refine below_set ?_ GE231.out) | exact HB.out)))); have n4_ := Aside0.mk (blk_below (g := gb228) (o := .cells #[.int .i64 x229000_1, .slice Ao90 x229001_1.length co90] 28 (0, 0)) (by (with_reducible repeat (first | refine blk_drewN ?_ _ | refine blk_drew ?_ | refine blk_alloc ?_ _)); exact BK228.out) hb); have n5_ := Aside0.mk (blk_below (g := gb229) (o := .cells #[.int .i64 x230000_1, u230001] 24 (0, 0)) (by (with_reducible repeat (first | refine blk_drewN ?_ _ | refine blk_drew ?_ | refine blk_alloc ?_ _)); exact BK229.out) hb); have n6_ := Aside0.mk (blk_below (g := gb231) (o := .cells #[.int .u8 ((rd_T54 l0 x5_1).f0), .int .i64 ((rd_T54 l0 x5_1).f1), .int .i64 ((rd_T54 l0 x5_1).f2)] 54 (0, 0)) (by (with_reducible repeat (first | refine blk_drewN ?_ _ | refine blk_drew ?_ | refine blk_alloc ?_ _)); exact BK231.out) hb); have n7_ := Aside0.mk (below_step (by repeat (first | (with_reducible first | exact HB.out | apply below_alloc | apply pw_below_drewN | apply below_drew1 | refine below_set ?_ GE228.out | refine below_set ?_ GE229.out | refine below_set ?_ GE231.out) | exact HB.out)) hb); clear HO_229001; clear HO_230001; clear BK228; clear BK229; clear BK231; clear HB; have HO_229001 := n0_; have HO_230001 := n1_; have HO247 := n2_; have HO250 := n3_; have BK228 := n4_; have BK229 := n5_; have BK231 := n6_; have HB := n7_; clear n0_ n1_ n2_ n3_ n4_ n5_ n6_ n7_; (try clear hb); (try clear hb2); (try clear hk); (try clear hi); (try clear ho0); (try clear ho1)) | ((with_reducible refine gate_dst (N := 12) rfl ?_); refine box_event ?hg (N := 12) ?hd (cs := #[.int .i64 0, .slice none 0 0]) (t := 28) ?hr ?_; (case hd => rfl); (case hg => rfl); (case hr => first | (go_simp; done) | (go_simp; rfl)); intro gb252 hg w92 hbox hb; have n0_ := Aside0.mk (Kd.Q_below (by (with_reducible repeat (first | apply Kd.Q_alloc | apply Kd.Q_drewN | apply Kd.Q_drew)); exact HO_229001.out) hb); have n1_ := Aside0.mk (Kd.R_below (by (with_reducible repeat (first | apply Kd.R_alloc | apply Kd.R_drewN | apply Kd.R_drew)); exact HO_230001.out) hb); have n2_ := Aside0.mk (Kd.Q_below (by (with_reducible repeat (first | apply Kd.Q_alloc | apply Kd.Q_drewN | apply Kd.Q_drew)); exact HO247.out) hb); have n3_ := Aside0.mk (Kd.R_below (by (with_reducible repeat (first | apply Kd.R_alloc | apply Kd.R_drewN | apply Kd.R_drew)); exact HO250.out) hb); have n4_ := Aside0.mk (blk_below (g := gb228) (o := .cells #[.int .i64 x229000_1, .slice Ao90 x229001_1.length co90] 28 (0, 0)) (by (with_reducible repeat (first | refine blk_drewN ?_ _ | refine blk_drew ?_ | refine blk_alloc ?_ _)); exact BK228.out) hb); have n5_ := Aside0.mk (blk_below (g := gb229) (o := .cells #[.int .i64 x230000_1, u230001] 24 (0, 0)) (by (with_reducible repeat (first | refine blk_drewN ?_ _ | refine blk_drew ?_ | refine blk_alloc ?_ _)); exact BK229.out) hb); have n6_ := Aside0.mk (blk_below (g := gb231) (o := .cells #[.int .u8 ((rd_T54 l0 x5_1).f0), .int .i64 ((rd_T54 l0 x5_1).f1), .int .i64 ((rd_T54 l0 x5_1).f2)] 54 (0, 0)) (by (with_reducible repeat (first | refine blk_drewN ?_ _ | refine blk_drew ?_ | refine blk_alloc ?_ _)); exact BK231.out) hb); have n7_ := Aside0.mk (below_step (by repeat (first | (with_reducible first | exact HB.out | apply below_alloc | apply pw_below_drewN | apply below_drew1 | refine below_set ?_ GE228.out | refine below_set ?_ GE229.out | refine below_set ?_ GE231.out) | exact HB.out)) hb); have n8_ := Aside0.mk (hbox); have n9_ := Aside0.mk ((by rw [hg]; exact (below_size (by repeat (first | (with_reducible first | exact HB.out | apply below_alloc | apply pw_below_drewN | apply below_drew1 | refine below_set ?_ GE228.out | refine below_set ?_ GE229.out | refine below_set ?_ GE231.out) | exact HB.out))) : w.heap.size ≤ gb252)); have n10_ := Aside0.mk ((by rw [hg]; exact (below_size (by repeat (first | (with_reducible first | exact HB.out | apply below_alloc | apply pw_below_drewN | apply below_drew1 | refine below_set ?_ GE228.out | refine below_set ?_ GE229.out | refine below_set ?_ GE231.out) | exact HB.out))) : w.heap.size ≤ gb252)); have n11_ := Aside0.mk ((by rw [hg]; exact Nat.ne_of_lt (blk_lt (g := gb228) (o := .cells #[.int .i64 x229000_1, .slice Ao90 x229001_1.length co90] 28 (0, 0)) (by (with_reducible repeat (first | refine blk_drewN ?_ _ | refine blk_drew ?_ | refine blk_alloc ?_ _)); exact BK228.out)) : gb228 ≠ gb252)); have n12_ := Aside0.mk ((by rw [hg]; exact Nat.ne_of_gt (blk_lt (g := gb228) (o := .cells #[.int .i64 x229000_1, .slice Ao90 x229001_1.length co90] 28 (0, 0)) (by (with_reducible repeat (first | refine blk_drewN ?_ _ | refine blk_drew ?_ | refine blk_alloc ?_ _)); exact BK228.out)) : gb252 ≠ gb228)); have n13_ := Aside0.mk ((by rw [hg]; exact Nat.ne_of_lt (blk_lt (g := gb229) (o := .cells #[.int .i64 x230000_1, u230001] 24 (0, 0)) (by (with_reducible repeat (first | refine blk_drewN ?_ _ | refine blk_drew ?_ | refine blk_alloc ?_ _)); exact BK229.out)) : gb229 ≠ gb252)); have n14_ := Aside0.mk ((by rw [hg]; exact Nat.ne_of_gt (blk_lt (g := gb229) (o := .cells #[.int .i64 x230000_1, u230001] 24 (0, 0)) (by (with_reducible repeat (first | refine blk_drewN ?_ _ | refine blk_drew ?_ | refine blk_alloc ?_ _)); exact BK229.out)) : gb252 ≠ gb229)); have n15_ := Aside0.mk ((by rw [hg]; exact Nat.ne_of_lt (blk_lt (g := gb231) (o := .cells #[.int .u8 ((rd_T54 l0 x5_1).f0), .int .i64 ((rd_T54 l0 x5_1).f1), .int .i64 ((rd_T54 l0 x5_1).f2)] 54 (0, 0)) (by (with_reducible repeat (first | refine blk_drewN ?_ _ | refine blk_drew ?_ | refine blk_alloc ?_ _)); exact BK231.out)) : gb231 ≠ gb252)); have n16_ := Aside0.mk ((by rw [hg]; exact Nat.ne_of_gt (blk_lt (g := gb231) (o := .cells #[.int .u8 ((rd_T54 l0 x5_1).f0), .int .i64 ((rd_T54 l0 x5_1).f1), .int .i64 ((rd_T54 l0 x5_1).f2)] 54 (0, 0)) (by (with_reducible repeat (first | refine blk_drewN ?_ _ | refine blk_drew ?_ | refine blk_alloc ?_ _)); exact BK231.out)) : gb252 ≠ gb231)); clear HO_229001; clear HO_230001; clear HO247; clear HO250; clear BK228; clear BK229; clear BK231; clear HB; have HO_229001 := n0_; have HO_230001 := n1_; have HO247 := n2_; have HO250 := n3_; have BK228 := n4_; have BK229 := n5_; have BK231 := n6_; have HB := n7_; have BK252 := n8_; have GW252 := n9_; have GE252 := n10_; have NB228_252 := n11_; have NB252_228 := n12_; have NB229_252 := n13_; have NB252_229 := n14_; have NB231_252 := n15_; have NB252_231 := n16_; clear n0_ n1_ n2_ n3_ n4_ n5_ n6_ n7_ n8_ n9_ n10_ n11_ n12_ n13_ n14_ n15_ n16_; clear hb hbox hg; have hnb93 := NB252_228.out; have hnc93 := NB228_252.out; have hnb94 := NB252_229.out; have hnc94 := NB229_252.out; have hnb95 := NB252_231.out; have hnc95 := NB231_252.out; have hcz96_0 : w92.cell? ⟨gb252, 0, none⟩ = some (.int .i64 0) := (blk_cell BK252.out 0).trans rfl; have hcz96_1 : w92.cell? ⟨gb252, 1, none⟩ = some (.slice none 0 0) := (blk_cell BK252.out 1).trans rfl; have hfz96_0 := blk_frozen BK252.out 0; have hfz96_1 := blk_frozen BK252.out 1; obtain ⟨Ao97, co97, eo97, _⟩ := Kd.Q_slice HO247.out; subst eo97) | ((with_reducible refine gate_store (t := 28) (p := 12) rfl ?_); refine store_event (t := 28) (p := 12) (v := ?vo_w98) (w1 := ((w92.setCell ⟨gb252, 0, none⟩ (.int .i64 t244)).setCell ⟨gb252, 1, none⟩ (.slice Ao97 t245.length co97))) ?hg ?ho ?hn ?hr ?_; (case ho => rfl); (case hg => rfl); (case hn => rfl); (case hr => first | (go_simp; done) | (go_simp; rfl)); intro w98 hw; have n0_ : Aside0 (Kd.Q k64 64 w98 w.heap.size (fun k_ => some k_ ≠ (.slice Ao97 t245.length co97 : Value).ownBlock) (.slice Ao90 x229001_1.length co90) x229001_1) := ⟨(by rw [hw]; exact (by (with_reducible repeat (first | apply Kd.Q_alloc | apply Kd.Q_drewN | apply Kd.Q_drew)); exact Kd.Q_mono (Kd.Q_far (p := ⟨gb252, 1, none⟩) (Kd.Q_far (p := ⟨gb252, 0, none⟩) (Kd.Q_types HO_229001.out BK252.out (by decide)) (fun _ hk => hk.2) (.int .i64 t244)) (fun _ hk => hk.2) (.slice Ao97 t245.length co97)) (fun _ hk => hk.1.2)))⟩; have n1_ : Aside0 (Kd.R k46 46 w98 w.heap.size (fun _ => True) u230001 x230001_1) := ⟨(by rw [hw]; exact (by (with_reducible repeat (first | apply Kd.R_alloc | apply Kd.R_drewN | apply Kd.R_drew)); exact Kd.R_mono (Kd.R_far (p := ⟨gb252, 1, none⟩) (Kd.R_far (p := ⟨gb252, 0, none⟩) (Kd.R_types HO_230001.out BK252.out (by decide)) (fun _ hk => hk.2) (.int .i64 t244)) (fun _ hk => hk.2) (.slice Ao97 t245.length co97)) (fun _ hk => trivial)))⟩; have n2_ : Aside0 (Kd.Q k64 64 w98 w.heap.size (fun k_ => some k_ ≠ (.slice Ao90 x229001_1.length co90 : Value).ownBlock) (.slice Ao97 t245.length co97) t245) := ⟨(by rw [hw]; exact (by (with_reducible repeat (first | apply Kd.Q_alloc | apply Kd.Q_drewN | apply Kd.Q_drew)); exact Kd.Q_mono (Kd.Q_far (p := ⟨gb252, 1, none⟩) (Kd.Q_far (p := ⟨gb252, 0, none⟩) (Kd.Q_types HO247.out BK252.out (by decide)) (fun _ hk => hk.2) (.int .i64 t244)) (fun _ hk => hk.2) (.slice Ao97 t245.length co97)) (fun _ hk => hk.1.2)))⟩; have n3_ : Aside0 (Kd.R (Kd.int .i64) 3 w98 w.heap.size (fun _ => True) v249 t248) := ⟨(by rw [hw]; exact (by (with_reducible repeat (first | apply Kd.R_alloc | apply Kd.R_drewN | apply Kd.R_drew)); exact Kd.R_mono (Kd.R_far (p := ⟨gb252, 1, none⟩) (Kd.R_far (p := ⟨gb252, 0, none⟩) (Kd.R_types HO250.out BK252.out (by decide)) (fun _ hk => hk.2) (.int .i64 t244)) (fun _ hk => hk.2) (.slice Ao97 t245.length co97)) (fun _ hk => trivial)))⟩; have n4_ : Aside0 (w98.heap[gb228]? = some (.cells #[.int .i64 x229000_1, .slice Ao90 x229001_1.length co90] 28 (0, 0))) := ⟨(by rw [hw]; exact (by (with_reducible repeat (first | refine blk_drewN ?_ _ | refine blk_drew ?_ | refine blk_alloc ?_ _)); refine blk_far ?_ NB228_252.out _; (with_reducible repeat (first | refine blk_drewN ?_ _ | refine blk_drew ?_ | refine blk_alloc ?_ _)); refine blk_far ?_ NB228_252.out _; (with_reducible repeat (first | refine blk_drewN ?_ _ | refine blk_drew ?_ | refine blk_alloc ?_ _)); exact BK228.out))⟩; have n5_ : Aside0 (w98.heap[gb229]? = some (.cells #[.int .i64 x230000_1, u230001] 24 (0, 0))) := ⟨(by rw [hw]; exact (by (with_reducible repeat (first | refine blk_drewN ?_ _ | refine blk_drew ?_ | refine blk_alloc ?_ _)); refine blk_far ?_ NB229_252.out _; (with_reducible repeat (first | refine blk_drewN ?_ _ | refine blk_drew ?_ | refine blk_alloc ?_ _)); refine blk_far ?_ NB229_252.out _; (with_reducible repeat (first | refine blk_drewN ?_ _ | refine blk_drew ?_ | refine blk_alloc ?_ _)); exact BK229.out))⟩; have n6_ : Aside0 (w98.heap[gb231]? = some (.cells #[.int .u8 ((rd_T54 l0 x5_1).f0), .int .i64 ((rd_T54 l0 x5_1).f1), .int .i64 ((rd_T54 l0 x5_1).f2)] 54 (0, 0))) := ⟨(by rw [hw]; exact (by (with_reducible repeat (first | refine blk_drewN ?_ _ | refine blk_drew ?_ | refine blk_alloc ?_ _)); refine blk_far ?_ NB231_252.out _; (with_reducible repeat (first | refine blk_drewN ?_ _ | refine blk_drew ?_ | refine blk_alloc ?_ _)); refine blk_far ?_ NB231_252.out _; (with_reducible repeat (first | refine blk_drewN ?_ _ | refine blk_drew ?_ | refine blk_alloc ?_ _)); exact BK231.out))⟩; have n7_ : Aside0 (w98.heap[gb252]? = some (.cells #[.int .i64 t244, .slice Ao97 t245.length co97] 28 (0, 0))) := ⟨(by rw [hw]; exact (by (with_reducible repeat (first | refine blk_drewN ?_ _ | refine blk_drew ?_ | refine blk_alloc ?_ _)); refine blk_put (cs := #[.int .i64 t244, .slice none 0 0]) ?_ 1 _ rfl; (with_reducible repeat (first | refine blk_drewN ?_ _ | refine blk_drew ?_ | refine blk_alloc ?_ _)); refine blk_put (cs := #[.int .i64 0, .slice none 0 0]) ?_ 0 _ rfl; (with_reducible repeat (first | refine blk_drewN ?_ _ | refine blk_drew ?_ | refine blk_alloc ?_ _)); exact BK252.out))⟩; have n8_ : Aside0 (Below w.heap.size w w98) := ⟨(by rw [hw]; exact (by repeat (first | (with_reducible first | exact HB.out | apply below_alloc | apply pw_below_drewN | apply below_drew1 | refine below_set ?_ GE228.out | refine below_set ?_ GE229.out | refine below_set ?_ GE231.out | refine below_set ?_ GE252.out) | exact HB.out)))⟩; clear hw; clear HO_229001; clear HO_230001; clear HO247; clear HO250; clear BK228; clear BK229; clear BK231; clear BK252; clear HB; have HO_229001 := n0_; have HO_230001 := n1_; have HO247 := n2_; have HO250 := n3_; have BK228 := n4_; have BK229 := n5_; have BK231 := n6_; have BK252 := n7_; have HB := n8_; clear n0_ n1_ n2_ n3_ n4_ n5_ n6_ n7_ n8_; have hcz99_0 : w98.cell? ⟨gb229, 0, none⟩ = some (.int .i64 x230000_1) := (blk_cell BK229.out 0).trans rfl; have hcz99_1 : w98.cell? ⟨gb229, 1, none⟩ = some (u230001) := (blk_cell BK229.out 1).trans rfl; have hfz99_0 := blk_frozen BK229.out 0; have hfz99_1 := blk_frozen BK229.out 1; have hcz100_0 : w98.cell? ⟨gb231, 0, none⟩ = some (.int .u8 ((rd_T54 l0 x5_1).f0)) := (blk_cell BK231.out 0).trans rfl; have hcz100_1 : w98.cell? ⟨gb231, 1, none⟩ = some (.int .i64 ((rd_T54 l0 x5_1).f1)) := (blk_cell BK231.out 1).trans rfl; have hcz100_2 : w98.cell? ⟨gb231, 2, none⟩ = some (.int .i64 ((rd_T54 l0 x5_1).f2)) := (blk_cell BK231.out 2).trans rfl; have hfz100_0 := blk_frozen BK231.out 0; have hfz100_1 := blk_frozen BK231.out 1; have hfz100_2 := blk_frozen BK231.out 2; obtain ⟨Ao101, co101, eo101⟩ := Kd.R_slice HO_230001.out; subst eo101) | ((with_reducible refine gate_callee (f := 17) rfl ?_); refine goesL_ (some 100) rfl rfl Try.func17 (by kernel_rfl) rfl #[.agg #[.int .i64 x230000_1, .slice Ao101 x230001_1.length co101], .int .i64 ((rd_T54 l0 x5_1).f2)] rfl (by (try simp only [List.map_toArray, List.map_cons, List.map_nil]); first | done | rfl | (simp only [List.length_drop, List.length_take]; rfl)) ?_; (with_reducible refine (waystationref06_Tick.calls kj47 x230000_1 (fun k_ => some k_ = (.slice Ao101 x230001_1.length co101 : Value).ownBlock) (.slice Ao101 x230001_1.length co101) x230001_1 ((rd_T54 l0 x5_1).f2) t253 t254 t257 t260 w _ ?side1 ?side2 A52.out).mono ?_); (case side1 => repeat (first | (with_reducible first | exact HB.out | apply below_alloc | apply pw_below_drewN | apply below_drew1 | refine below_set ?_ GE228.out | refine below_set ?_ GE229.out | refine below_set ?_ GE231.out | refine below_set ?_ GE252.out) | exact HB.out)); (case side2 => exact Kd.R_tight rfl HO_230001.out); rintro e w102 ⟨v255, v258, rfl, ho0, ho1, hb, hkp⟩; refine ⟨_, rfl, ?_⟩; have n0_ := Aside0.mk (Kd.Q_mono (ok' := fun k_ => some k_ ≠ (.slice Ao97 t245.length co97 : Value).ownBlock) (Kd.Q_keptB ((Kd.Q_apart' HO_229001.out (Kd.R_typed HO_230001.out) (by decide))) hkp (fun k_ hk_ hs_ => (hk_.2) hs_)) (fun k_ hk_ => hk_.1.1)); have n1_ := Aside0.mk (blk_kept (by (with_reducible repeat (first | refine blk_drewN ?_ _ | refine blk_drew ?_ | refine blk_alloc ?_ _)); exact BK228.out) hkp (fun hs_ => (fun e_ => (Kd.R_ne HO_230001.out BK228.out (by decide)) e_) hs_)); have n2_ := Aside0.mk (blk_kept (by (with_reducible repeat (first | refine blk_drewN ?_ _ | refine blk_drew ?_ | refine blk_alloc ?_ _)); exact BK229.out) hkp (fun hs_ => (fun e_ => (Kd.R_ne HO_230001.out BK229.out (by decide)) e_) hs_)); have n3_ := Aside0.mk (blk_kept (by (with_reducible repeat (first | refine blk_drewN ?_ _ | refine blk_drew ?_ | refine blk_alloc ?_ _)); exact BK231.out) hkp (fun hs_ => (fun e_ => (Kd.R_ne HO_230001.out BK231.out (by decide)) e_) hs_)); have n4_ := Aside0.mk (Kd.Q_mono (ok' := fun k_ => some k_ ≠ (.slice Ao90 x229001_1.length co90 : Value).ownBlock) (Kd.Q_keptB ((Kd.Q_apart' HO247.out (Kd.R_typed HO_230001.out) (by decide))) hkp (fun k_ hk_ hs_ => (hk_.2) hs_)) (fun k_ hk_ => hk_.1.1)); have n5_ := Aside0.mk (Kd.R_mono (ok' := fun k_ => some k_ ≠ (v258 : Value).ownBlock) (Kd.R_keptB ((Kd.R_apart' HO250.out (Kd.R_typed HO_230001.out) (by decide))) hkp (fun k_ hk_ hs_ => (hk_.2) hs_)) (fun k_ hk_ => fun e_ => Or.elim (ho1.1 k_ e_.symm) (fun hs_ => hk_.2.1 hs_) (fun hn_ => Nat.not_le.2 hk_.2.2 hn_))); have n6_ := Aside0.mk (blk_kept (by (with_reducible repeat (first | refine blk_drewN ?_ _ | refine blk_drew ?_ | refine blk_alloc ?_ _)); exact BK252.out) hkp (fun hs_ => (fun e_ => (Kd.R_ne HO_230001.out BK252.out (by decide)) e_) hs_)); have n7_ := Aside0.mk (Kd.R_mono (ok' := fun k_ => True) ho0 (fun k_ hk_ => trivial)); have n8_ := Aside0.mk (Kd.R_mono (ok' := fun k_ => some k_ ≠ (v249 : Value).ownBlock) ho1 (fun k_ hk_ => Or.elim hk_ (fun hs_ => fun e_ => ((((Kd.R_apart' HO250.out (Kd.R_typed HO_230001.out) (by decide))).1 k_ e_.symm).2) hs_) (fun hn_ => (Kd.fresh' (Kd.R_lt (by (with_reducible repeat (first | apply Kd.R_alloc | apply Kd.R_drewN | apply Kd.R_drew)); exact HO250.out)) k_ hn_)))); have n9_ := Aside0.mk (hb); clear HO_229001; clear BK228; clear BK229; clear BK231; clear HO247; clear HO250; clear BK252; clear HB; clear HO_230001; have HO_229001 := n0_; have BK228 := n1_; have BK229 := n2_; have BK231 := n3_; have HO247 := n4_; have HO250 := n5_; have BK252 := n6_; have HO256 := n7_; have HO259 := n8_; have HB := n9_; clear n0_ n1_ n2_ n3_ n4_ n5_ n6_ n7_ n8_ n9_; (try clear hb); (try clear hkp); (try clear ho0); (try clear ho1)) | ((with_reducible refine gate_dst (N := 15) rfl ?_); refine box_event ?hg (N := 15) ?hd (cs := #[.int .i64 0, .slice none 0 0]) (t := 24) ?hr ?_; (case hd => rfl); (case hg => rfl); (case hr => first | (go_simp; done) | (go_simp; rfl)); intro gb261 hg w103 hbox hb; have n0_ := Aside0.mk (Kd.Q_below (by (with_reducible repeat (first | apply Kd.Q_alloc | apply Kd.Q_drewN | apply Kd.Q_drew)); exact HO_229001.out) hb); have n1_ := Aside0.mk (Kd.Q_below (by (with_reducible repeat (first | apply Kd.Q_alloc | apply Kd.Q_drewN | apply Kd.Q_drew)); exact HO247.out) hb); have n2_ := Aside0.mk (Kd.R_below (by (with_reducible repeat (first | apply Kd.R_alloc | apply Kd.R_drewN | apply Kd.R_drew)); exact HO250.out) hb); have n3_ := Aside0.mk (Kd.R_below (by (with_reducible repeat (first | apply Kd.R_alloc | apply Kd.R_drewN | apply Kd.R_drew)); exact HO256.out) hb); have n4_ := Aside0.mk (Kd.R_below (by (with_reducible repeat (first | apply Kd.R_alloc | apply Kd.R_drewN | apply Kd.R_drew)); exact HO259.out) hb); have n5_ := Aside0.mk (blk_below (g := gb228) (o := .cells #[.int .i64 x229000_1, .slice Ao90 x229001_1.length co90] 28 (0, 0)) (by (with_reducible repeat (first | refine blk_drewN ?_ _ | refine blk_drew ?_ | refine blk_alloc ?_ _)); exact BK228.out) hb); have n6_ := Aside0.mk (blk_below (g := gb229) (o := .cells #[.int .i64 x230000_1, .slice Ao101 x230001_1.length co101] 24 (0, 0)) (by (with_reducible repeat (first | refine blk_drewN ?_ _ | refine blk_drew ?_ | refine blk_alloc ?_ _)); exact BK229.out) hb); have n7_ := Aside0.mk (blk_below (g := gb231) (o := .cells #[.int .u8 ((rd_T54 l0 x5_1).f0), .int .i64 ((rd_T54 l0 x5_1).f1), .int .i64 ((rd_T54 l0 x5_1).f2)] 54 (0, 0)) (by (with_reducible repeat (first | refine blk_drewN ?_ _ | refine blk_drew ?_ | refine blk_alloc ?_ _)); exact BK231.out) hb); have n8_ := Aside0.mk (blk_below (g := gb252) (o := .cells #[.int .i64 t244, .slice Ao97 t245.length co97] 28 (0, 0)) (by (with_reducible repeat (first | refine blk_drewN ?_ _ | refine blk_drew ?_ | refine blk_alloc ?_ _)); exact BK252.out) hb); have n9_ := Aside0.mk (below_step (by repeat (first | (with_reducible first | exact HB.out | apply below_alloc | apply pw_below_drewN | apply below_drew1 | refine below_set ?_ GE228.out | refine below_set ?_ GE229.out | refine below_set ?_ GE231.out | refine below_set ?_ GE252.out) | exact HB.out)) hb); have n10_ := Aside0.mk (hbox); have n11_ := Aside0.mk ((by rw [hg]; exact (below_size (by repeat (first | (with_reducible first | exact HB.out | apply below_alloc | apply pw_below_drewN | apply below_drew1 | refine below_set ?_ GE228.out | refine below_set ?_ GE229.out | refine below_set ?_ GE231.out | refine below_set ?_ GE252.out) | exact HB.out))) : w.heap.size ≤ gb261)); have n12_ := Aside0.mk ((by rw [hg]; exact (below_size (by repeat (first | (with_reducible first | exact HB.out | apply below_alloc | apply pw_below_drewN | apply below_drew1 | refine below_set ?_ GE228.out | refine below_set ?_ GE229.out | refine below_set ?_ GE231.out | refine below_set ?_ GE252.out) | exact HB.out))) : w.heap.size ≤ gb261)); have n13_ := Aside0.mk ((by rw [hg]; exact Nat.ne_of_lt (blk_lt (g := gb228) (o := .cells #[.int .i64 x229000_1, .slice Ao90 x229001_1.length co90] 28 (0, 0)) (by (with_reducible repeat (first | refine blk_drewN ?_ _ | refine blk_drew ?_ | refine blk_alloc ?_ _)); exact BK228.out)) : gb228 ≠ gb261)); have n14_ := Aside0.mk ((by rw [hg]; exact Nat.ne_of_gt (blk_lt (g := gb228) (o := .cells #[.int .i64 x229000_1, .slice Ao90 x229001_1.length co90] 28 (0, 0)) (by (with_reducible repeat (first | refine blk_drewN ?_ _ | refine blk_drew ?_ | refine blk_alloc ?_ _)); exact BK228.out)) : gb261 ≠ gb228)); have n15_ := Aside0.mk ((by rw [hg]; exact Nat.ne_of_lt (blk_lt (g := gb229) (o := .cells #[.int .i64 x230000_1, .slice Ao101 x230001_1.length co101] 24 (0, 0)) (by (with_reducible repeat (first | refine blk_drewN ?_ _ | refine blk_drew ?_ | refine blk_alloc ?_ _)); exact BK229.out)) : gb229 ≠ gb261)); have n16_ := Aside0.mk ((by rw [hg]; exact Nat.ne_of_gt (blk_lt (g := gb229) (o := .cells #[.int .i64 x230000_1, .slice Ao101 x230001_1.length co101] 24 (0, 0)) (by (with_reducible repeat (first | refine blk_drewN ?_ _ | refine blk_drew ?_ | refine blk_alloc ?_ _)); exact BK229.out)) : gb261 ≠ gb229)); have n17_ := Aside0.mk ((by rw [hg]; exact Nat.ne_of_lt (blk_lt (g := gb231) (o := .cells #[.int .u8 ((rd_T54 l0 x5_1).f0), .int .i64 ((rd_T54 l0 x5_1).f1), .int .i64 ((rd_T54 l0 x5_1).f2)] 54 (0, 0)) (by (with_reducible repeat (first | refine blk_drewN ?_ _ | refine blk_drew ?_ | refine blk_alloc ?_ _)); exact BK231.out)) : gb231 ≠ gb261)); have n18_ := Aside0.mk ((by rw [hg]; exact Nat.ne_of_gt (blk_lt (g := gb231) (o := .cells #[.int .u8 ((rd_T54 l0 x5_1).f0), .int .i64 ((rd_T54 l0 x5_1).f1), .int .i64 ((rd_T54 l0 x5_1).f2)] 54 (0, 0)) (by (with_reducible repeat (first | refine blk_drewN ?_ _ | refine blk_drew ?_ | refine blk_alloc ?_ _)); exact BK231.out)) : gb261 ≠ gb231)); have n19_ := Aside0.mk ((by rw [hg]; exact Nat.ne_of_lt (blk_lt (g := gb252) (o := .cells #[.int .i64 t244, .slice Ao97 t245.length co97] 28 (0, 0)) (by (with_reducible repeat (first | refine blk_drewN ?_ _ | refine blk_drew ?_ | refine blk_alloc ?_ _)); exact BK252.out)) : gb252 ≠ gb261)); have n20_ := Aside0.mk ((by rw [hg]; exact Nat.ne_of_gt (blk_lt (g := gb252) (o := .cells #[.int .i64 t244, .slice Ao97 t245.length co97] 28 (0, 0)) (by (with_reducible repeat (first | refine blk_drewN ?_ _ | refine blk_drew ?_ | refine blk_alloc ?_ _)); exact BK252.out)) : gb261 ≠ gb252)); clear HO_229001; clear HO247; clear HO250; clear HO256; clear HO259; clear BK228; clear BK229; clear BK231; clear BK252; clear HB; have HO_229001 := n0_; have HO247 := n1_; have HO250 := n2_; have HO256 := n3_; have HO259 := n4_; have BK228 := n5_; have BK229 := n6_; have BK231 := n7_; have BK252 := n8_; have HB := n9_; have BK261 := n10_; have GW261 := n11_; have GE261 := n12_; have NB228_261 := n13_; have NB261_228 := n14_; have NB229_261 := n15_; have NB261_229 := n16_; have NB231_261 := n17_; have NB261_231 := n18_; have NB252_261 := n19_; have NB261_252 := n20_; clear n0_ n1_ n2_ n3_ n4_ n5_ n6_ n7_ n8_ n9_ n10_ n11_ n12_ n13_ n14_ n15_ n16_ n17_ n18_ n19_ n20_; clear hb hbox hg; have hnb104 := NB261_228.out; have hnc104 := NB228_261.out; have hnb105 := NB261_229.out; have hnc105 := NB229_261.out; have hnb106 := NB261_231.out; have hnc106 := NB231_261.out; have hnb107 := NB261_252.out; have hnc107 := NB252_261.out; have hcz108_0 : w103.cell? ⟨gb261, 0, none⟩ = some (.int .i64 0) := (blk_cell BK261.out 0).trans rfl; have hcz108_1 : w103.cell? ⟨gb261, 1, none⟩ = some (.slice none 0 0) := (blk_cell BK261.out 1).trans rfl; have hfz108_0 := blk_frozen BK261.out 0; have hfz108_1 := blk_frozen BK261.out 1; obtain ⟨Ao109, co109, eo109⟩ := Kd.R_slice HO256.out; subst eo109; have hcz110_0 : w103.cell? ⟨gb252, 0, none⟩ = some (.int .i64 t244) := (blk_cell BK252.out 0).trans rfl; have hcz110_1 : w103.cell? ⟨gb252, 1, none⟩ = some (.slice Ao97 t245.length co97) := (blk_cell BK252.out 1).trans rfl; have hfz110_0 := blk_frozen BK252.out 0; have hfz110_1 := blk_frozen BK252.out 1; have hcz111_0 : w103.cell? ⟨gb228, 0, none⟩ = some (.int .i64 x229000_1) := (blk_cell BK228.out 0).trans rfl; have hcz111_1 : w103.cell? ⟨gb228, 1, none⟩ = some (.slice Ao90 x229001_1.length co90) := (blk_cell BK228.out 1).trans rfl; have hfz111_0 := blk_frozen BK228.out 0; have hfz111_1 := blk_frozen BK228.out 1; have hcz112_0 : w103.cell? ⟨gb229, 0, none⟩ = some (.int .i64 x230000_1) := (blk_cell BK229.out 0).trans rfl; have hcz112_1 : w103.cell? ⟨gb229, 1, none⟩ = some (.slice Ao101 x230001_1.length co101) := (blk_cell BK229.out 1).trans rfl; have hfz112_0 := blk_frozen BK229.out 0; have hfz112_1 := blk_frozen BK229.out 1))
                              go_meet
                              case rel => exact ⟨_, (false), (t244), (t245), (t253), (t254), (.slice Ao97 t245.length co97), (.slice Ao109 t254.length co109), (by first | rfl | (simp; done) | (simp [*]; done)), H', ⟨by have := HK1.out; have := HJ6.out; have := HJ47.out; first | omega | exact Nat.le_refl _⟩, ⟨by (with_reducible repeat (first | apply Kd.Q_alloc | apply Kd.Q_drewN | apply Kd.Q_drew)); exact Kd.Q_mono (Kd.Q_far (p := ⟨gb229, 1, none⟩) (Kd.Q_far (p := ⟨gb229, 0, none⟩) (Kd.Q_far (p := ⟨gb228, 1, none⟩) (Kd.Q_far (p := ⟨gb228, 0, none⟩) (Kd.Q_far (p := ⟨gb261, 1, none⟩) (Kd.Q_far (p := ⟨gb261, 0, none⟩) (Kd.Q_types (Kd.Q_types (Kd.Q_types HO247.out BK261.out (by decide)) BK228.out (by decide)) BK229.out (by decide)) (fun _ hk => hk.1.1.2) (.int .i64 t253)) (fun _ hk => hk.1.1.2) (.slice Ao109 t254.length co109)) (fun _ hk => hk.1.2) (.int .i64 t244)) (fun _ hk => hk.1.2) (.slice Ao97 t245.length co97)) (fun _ hk => hk.2) (.int .i64 t253)) (fun _ hk => hk.2) (.slice Ao109 t254.length co109)) (fun _ hk => trivial)⟩, ⟨by (with_reducible repeat (first | apply Kd.R_alloc | apply Kd.R_drewN | apply Kd.R_drew)); exact Kd.R_mono (Kd.R_far (p := ⟨gb229, 1, none⟩) (Kd.R_far (p := ⟨gb229, 0, none⟩) (Kd.R_far (p := ⟨gb228, 1, none⟩) (Kd.R_far (p := ⟨gb228, 0, none⟩) (Kd.R_far (p := ⟨gb261, 1, none⟩) (Kd.R_far (p := ⟨gb261, 0, none⟩) (Kd.R_types (Kd.R_types (Kd.R_types HO256.out BK261.out (by decide)) BK228.out (by decide)) BK229.out (by decide)) (fun _ hk => hk.1.1.2) (.int .i64 t253)) (fun _ hk => hk.1.1.2) (.slice Ao109 t254.length co109)) (fun _ hk => hk.1.2) (.int .i64 t244)) (fun _ hk => hk.1.2) (.slice Ao97 t245.length co97)) (fun _ hk => hk.2) (.int .i64 t253)) (fun _ hk => hk.2) (.slice Ao109 t254.length co109)) (fun _ hk => trivial)⟩, ⟨by (with_reducible repeat (first | refine blk_drewN ?_ _ | refine blk_drew ?_ | refine blk_alloc ?_ _)); refine blk_far ?_ NB228_229.out _; (with_reducible repeat (first | refine blk_drewN ?_ _ | refine blk_drew ?_ | refine blk_alloc ?_ _)); refine blk_far ?_ NB228_229.out _; (with_reducible repeat (first | refine blk_drewN ?_ _ | refine blk_drew ?_ | refine blk_alloc ?_ _)); refine blk_put (cs := #[.int .i64 t244, .slice Ao90 x229001_1.length co90]) ?_ 1 _ rfl; (with_reducible repeat (first | refine blk_drewN ?_ _ | refine blk_drew ?_ | refine blk_alloc ?_ _)); refine blk_put (cs := #[.int .i64 x229000_1, .slice Ao90 x229001_1.length co90]) ?_ 0 _ rfl; (with_reducible repeat (first | refine blk_drewN ?_ _ | refine blk_drew ?_ | refine blk_alloc ?_ _)); refine blk_far ?_ NB228_261.out _; (with_reducible repeat (first | refine blk_drewN ?_ _ | refine blk_drew ?_ | refine blk_alloc ?_ _)); refine blk_far ?_ NB228_261.out _; (with_reducible repeat (first | refine blk_drewN ?_ _ | refine blk_drew ?_ | refine blk_alloc ?_ _)); exact BK228.out⟩, ⟨by (with_reducible repeat (first | refine blk_drewN ?_ _ | refine blk_drew ?_ | refine blk_alloc ?_ _)); refine blk_put (cs := #[.int .i64 t253, .slice Ao101 x230001_1.length co101]) ?_ 1 _ rfl; (with_reducible repeat (first | refine blk_drewN ?_ _ | refine blk_drew ?_ | refine blk_alloc ?_ _)); refine blk_put (cs := #[.int .i64 x230000_1, .slice Ao101 x230001_1.length co101]) ?_ 0 _ rfl; (with_reducible repeat (first | refine blk_drewN ?_ _ | refine blk_drew ?_ | refine blk_alloc ?_ _)); refine blk_far ?_ NB229_228.out _; (with_reducible repeat (first | refine blk_drewN ?_ _ | refine blk_drew ?_ | refine blk_alloc ?_ _)); refine blk_far ?_ NB229_228.out _; (with_reducible repeat (first | refine blk_drewN ?_ _ | refine blk_drew ?_ | refine blk_alloc ?_ _)); refine blk_far ?_ NB229_261.out _; (with_reducible repeat (first | refine blk_drewN ?_ _ | refine blk_drew ?_ | refine blk_alloc ?_ _)); refine blk_far ?_ NB229_261.out _; (with_reducible repeat (first | refine blk_drewN ?_ _ | refine blk_drew ?_ | refine blk_alloc ?_ _)); exact BK229.out⟩, ⟨by (with_reducible repeat (first | refine blk_drewN ?_ _ | refine blk_drew ?_ | refine blk_alloc ?_ _)); refine blk_far ?_ NB231_229.out _; (with_reducible repeat (first | refine blk_drewN ?_ _ | refine blk_drew ?_ | refine blk_alloc ?_ _)); refine blk_far ?_ NB231_229.out _; (with_reducible repeat (first | refine blk_drewN ?_ _ | refine blk_drew ?_ | refine blk_alloc ?_ _)); refine blk_far ?_ NB231_228.out _; (with_reducible repeat (first | refine blk_drewN ?_ _ | refine blk_drew ?_ | refine blk_alloc ?_ _)); refine blk_far ?_ NB231_228.out _; (with_reducible repeat (first | refine blk_drewN ?_ _ | refine blk_drew ?_ | refine blk_alloc ?_ _)); refine blk_far ?_ NB231_261.out _; (with_reducible repeat (first | refine blk_drewN ?_ _ | refine blk_drew ?_ | refine blk_alloc ?_ _)); refine blk_far ?_ NB231_261.out _; (with_reducible repeat (first | refine blk_drewN ?_ _ | refine blk_drew ?_ | refine blk_alloc ?_ _)); exact BK231.out⟩, ⟨by repeat (first | (with_reducible first | exact HB.out | apply below_alloc | apply pw_below_drewN | apply below_drew1 | refine below_set ?_ GE228.out | refine below_set ?_ GE229.out | refine below_set ?_ GE231.out | refine below_set ?_ GE252.out | refine below_set ?_ GE261.out) | exact HB.out)⟩⟩
                          · replace c50 := Bool.eq_false_iff.mpr c50
                            subst c50
                            have H1 : ((wheel_Set.f x229000_1 x229001_1 ((rd_T54 l0 x5_1).f1) ((rd_T54 l0 x5_1).f2)).bind fun bt263 => ((waystationref06_Set.f kj47 x230000_1 x230001_1 ((rd_T54 l0 x5_1).f1) ((rd_T54 l0 x5_1).f2)).bind fun bt269 => (waystationlaw06_WheelRow.j3 kj47 l0 x5_1 (bt263.2.2 == bt269.2.2) bt263.1 bt263.2.1 bt269.1 bt269.2.1))) = some r := by rw [if_neg (show ¬ (false = true) by decide)] at H; exact H
                            clear H
                            have H := H1
                            clear H1
                            replace H := Option.bind_eq_some_iff.mp H
                            obtain ⟨⟨t263, t264, t267⟩, A1130, H⟩ := H
                            replace H : ((waystationref06_Set.f kj47 x230000_1 x230001_1 ((rd_T54 l0 x5_1).f1) ((rd_T54 l0 x5_1).f2)).bind fun bt269 => (waystationlaw06_WheelRow.j3 kj47 l0 x5_1 (t267 == bt269.2.2) t263 t264 bt269.1 bt269.2.1)) = some r := H
                            have A113 := Aside0.mk A1130
                            clear A1130
                            replace H := Option.bind_eq_some_iff.mp H
                            obtain ⟨⟨t269, t270, t273⟩, A1140, H⟩ := H
                            replace H : (waystationlaw06_WheelRow.j3 kj47 l0 x5_1 (t267 == t273) t263 t264 t269 t270) = some r := H
                            have A114 := Aside0.mk A1140
                            clear A1140
                            have H' := Aside0.mk H
                            clear H
                            have hnb115 := NB228_229.out
                            have hnc115 := NB229_228.out
                            have hnb116 := NB228_231.out
                            have hnc116 := NB231_228.out
                            have hcz117_0 : wc.cell? ⟨gb228, 0, none⟩ = some (.int .i64 x229000_1) := (blk_cell BK228.out 0).trans rfl
                            have hcz117_1 : wc.cell? ⟨gb228, 1, none⟩ = some (u229001) := (blk_cell BK228.out 1).trans rfl
                            have hfz117_0 := blk_frozen BK228.out 0
                            have hfz117_1 := blk_frozen BK228.out 1
                            have hnb118 := NB231_229.out
                            have hnc118 := NB229_231.out
                            have hcz119_0 : wc.cell? ⟨gb231, 0, none⟩ = some (.int .u8 ((rd_T54 l0 x5_1).f0)) := (blk_cell BK231.out 0).trans rfl
                            have hcz119_1 : wc.cell? ⟨gb231, 1, none⟩ = some (.int .i64 ((rd_T54 l0 x5_1).f1)) := (blk_cell BK231.out 1).trans rfl
                            have hcz119_2 : wc.cell? ⟨gb231, 2, none⟩ = some (.int .i64 ((rd_T54 l0 x5_1).f2)) := (blk_cell BK231.out 2).trans rfl
                            have hfz119_0 := blk_frozen BK231.out 0
                            have hfz119_1 := blk_frozen BK231.out 1
                            have hfz119_2 := blk_frozen BK231.out 2
                            obtain ⟨Ao120, co120, eo120, _⟩ := Kd.Q_slice HO_229001.out
                            subst eo120
                            go_wp2_with (first | ((with_reducible refine gate_callee (f := 11) rfl ?_); refine goesL_ (some 47) rfl rfl Try.func11 (by kernel_rfl) rfl #[.agg #[.int .i64 x229000_1, .slice Ao120 x229001_1.length co120], .int .i64 ((rd_T54 l0 x5_1).f1), .int .i64 ((rd_T54 l0 x5_1).f2)] rfl (by (try simp only [List.map_toArray, List.map_cons, List.map_nil]); first | done | rfl | (simp only [List.length_drop, List.length_take]; rfl)) ?_; (with_reducible refine (wheel_Set.calls x229000_1 _ _ x229001_1 ((rd_T54 l0 x5_1).f1) ((rd_T54 l0 x5_1).f2) t263 t264 t267 _ ?side1 ?side2 A113.out).mono ?_); (case side1 => repeat (first | exact (Kd.Q_reads' HO_229001.out).2.2 | (with_reducible refine Kd.C_alloc ?_ _) | (with_reducible refine Kd.C_drewN ?_ _) | (with_reducible refine Kd.C_drew ?_))); (case side2 => exact (Kd.Q_reads' HO_229001.out).2.1); rintro e w121 ⟨v265, rfl, ho0, hb⟩; refine ⟨_, rfl, ?_⟩; have n0_ := Aside0.mk (Kd.Q_elder' (by (with_reducible repeat (first | apply Kd.Q_alloc | apply Kd.Q_drewN | apply Kd.Q_drew)); exact HO_229001.out) (Kd.R_base ho0) hb); have n1_ := Aside0.mk (Kd.R_below (by (with_reducible repeat (first | apply Kd.R_alloc | apply Kd.R_drewN | apply Kd.R_drew)); exact HO_230001.out) hb); have n2_ := Aside0.mk (Kd.R_lower (Kd.R_new' ho0 (Kd.Q_lt (by (with_reducible repeat (first | apply Kd.Q_alloc | apply Kd.Q_drewN | apply Kd.Q_drew)); exact HO_229001.out))) (below_size (by repeat (first | (with_reducible first | exact HB.out | apply below_alloc | apply pw_below_drewN | apply below_drew1 | refine below_set ?_ GE228.out | refine below_set ?_ GE229.out | refine below_set ?_ GE231.out) | exact HB.out)))); have n3_ := Aside0.mk (blk_below (g := gb228) (o := .cells #[.int .i64 x229000_1, .slice Ao120 x229001_1.length co120] 28 (0, 0)) (by (with_reducible repeat (first | refine blk_drewN ?_ _ | refine blk_drew ?_ | refine blk_alloc ?_ _)); exact BK228.out) hb); have n4_ := Aside0.mk (blk_below (g := gb229) (o := .cells #[.int .i64 x230000_1, u230001] 24 (0, 0)) (by (with_reducible repeat (first | refine blk_drewN ?_ _ | refine blk_drew ?_ | refine blk_alloc ?_ _)); exact BK229.out) hb); have n5_ := Aside0.mk (blk_below (g := gb231) (o := .cells #[.int .u8 ((rd_T54 l0 x5_1).f0), .int .i64 ((rd_T54 l0 x5_1).f1), .int .i64 ((rd_T54 l0 x5_1).f2)] 54 (0, 0)) (by (with_reducible repeat (first | refine blk_drewN ?_ _ | refine blk_drew ?_ | refine blk_alloc ?_ _)); exact BK231.out) hb); have n6_ := Aside0.mk (below_step (by repeat (first | (with_reducible first | exact HB.out | apply below_alloc | apply pw_below_drewN | apply below_drew1 | refine below_set ?_ GE228.out | refine below_set ?_ GE229.out | refine below_set ?_ GE231.out) | exact HB.out)) hb); clear HO_229001; clear HO_230001; clear BK228; clear BK229; clear BK231; clear HB; have HO_229001 := n0_; have HO_230001 := n1_; have HO266 := n2_; have BK228 := n3_; have BK229 := n4_; have BK231 := n5_; have HB := n6_; clear n0_ n1_ n2_ n3_ n4_ n5_ n6_; (try clear hb); (try clear hb2); (try clear hk); (try clear hi); (try clear ho0)) | ((with_reducible refine gate_dst (N := 18) rfl ?_); refine box_event ?hg (N := 18) ?hd (cs := #[.int .i64 0, .slice none 0 0]) (t := 28) ?hr ?_; (case hd => rfl); (case hg => rfl); (case hr => first | (go_simp; done) | (go_simp; rfl)); intro gb268 hg w122 hbox hb; have n0_ := Aside0.mk (Kd.Q_below (by (with_reducible repeat (first | apply Kd.Q_alloc | apply Kd.Q_drewN | apply Kd.Q_drew)); exact HO_229001.out) hb); have n1_ := Aside0.mk (Kd.R_below (by (with_reducible repeat (first | apply Kd.R_alloc | apply Kd.R_drewN | apply Kd.R_drew)); exact HO_230001.out) hb); have n2_ := Aside0.mk (Kd.R_below (by (with_reducible repeat (first | apply Kd.R_alloc | apply Kd.R_drewN | apply Kd.R_drew)); exact HO266.out) hb); have n3_ := Aside0.mk (blk_below (g := gb228) (o := .cells #[.int .i64 x229000_1, .slice Ao120 x229001_1.length co120] 28 (0, 0)) (by (with_reducible repeat (first | refine blk_drewN ?_ _ | refine blk_drew ?_ | refine blk_alloc ?_ _)); exact BK228.out) hb); have n4_ := Aside0.mk (blk_below (g := gb229) (o := .cells #[.int .i64 x230000_1, u230001] 24 (0, 0)) (by (with_reducible repeat (first | refine blk_drewN ?_ _ | refine blk_drew ?_ | refine blk_alloc ?_ _)); exact BK229.out) hb); have n5_ := Aside0.mk (blk_below (g := gb231) (o := .cells #[.int .u8 ((rd_T54 l0 x5_1).f0), .int .i64 ((rd_T54 l0 x5_1).f1), .int .i64 ((rd_T54 l0 x5_1).f2)] 54 (0, 0)) (by (with_reducible repeat (first | refine blk_drewN ?_ _ | refine blk_drew ?_ | refine blk_alloc ?_ _)); exact BK231.out) hb); have n6_ := Aside0.mk (below_step (by repeat (first | (with_reducible first | exact HB.out | apply below_alloc | apply pw_below_drewN | apply below_drew1 | refine below_set ?_ GE228.out | refine below_set ?_ GE229.out | refine below_set ?_ GE231.out) | exact HB.out)) hb); have n7_ := Aside0.mk (hbox); have n8_ := Aside0.mk ((by rw [hg]; exact (below_size (by repeat (first | (with_reducible first | exact HB.out | apply below_alloc | apply pw_below_drewN | apply below_drew1 | refine below_set ?_ GE228.out | refine below_set ?_ GE229.out | refine below_set ?_ GE231.out) | exact HB.out))) : w.heap.size ≤ gb268)); have n9_ := Aside0.mk ((by rw [hg]; exact (below_size (by repeat (first | (with_reducible first | exact HB.out | apply below_alloc | apply pw_below_drewN | apply below_drew1 | refine below_set ?_ GE228.out | refine below_set ?_ GE229.out | refine below_set ?_ GE231.out) | exact HB.out))) : w.heap.size ≤ gb268)); have n10_ := Aside0.mk ((by rw [hg]; exact Nat.ne_of_lt (blk_lt (g := gb228) (o := .cells #[.int .i64 x229000_1, .slice Ao120 x229001_1.length co120] 28 (0, 0)) (by (with_reducible repeat (first | refine blk_drewN ?_ _ | refine blk_drew ?_ | refine blk_alloc ?_ _)); exact BK228.out)) : gb228 ≠ gb268)); have n11_ := Aside0.mk ((by rw [hg]; exact Nat.ne_of_gt (blk_lt (g := gb228) (o := .cells #[.int .i64 x229000_1, .slice Ao120 x229001_1.length co120] 28 (0, 0)) (by (with_reducible repeat (first | refine blk_drewN ?_ _ | refine blk_drew ?_ | refine blk_alloc ?_ _)); exact BK228.out)) : gb268 ≠ gb228)); have n12_ := Aside0.mk ((by rw [hg]; exact Nat.ne_of_lt (blk_lt (g := gb229) (o := .cells #[.int .i64 x230000_1, u230001] 24 (0, 0)) (by (with_reducible repeat (first | refine blk_drewN ?_ _ | refine blk_drew ?_ | refine blk_alloc ?_ _)); exact BK229.out)) : gb229 ≠ gb268)); have n13_ := Aside0.mk ((by rw [hg]; exact Nat.ne_of_gt (blk_lt (g := gb229) (o := .cells #[.int .i64 x230000_1, u230001] 24 (0, 0)) (by (with_reducible repeat (first | refine blk_drewN ?_ _ | refine blk_drew ?_ | refine blk_alloc ?_ _)); exact BK229.out)) : gb268 ≠ gb229)); have n14_ := Aside0.mk ((by rw [hg]; exact Nat.ne_of_lt (blk_lt (g := gb231) (o := .cells #[.int .u8 ((rd_T54 l0 x5_1).f0), .int .i64 ((rd_T54 l0 x5_1).f1), .int .i64 ((rd_T54 l0 x5_1).f2)] 54 (0, 0)) (by (with_reducible repeat (first | refine blk_drewN ?_ _ | refine blk_drew ?_ | refine blk_alloc ?_ _)); exact BK231.out)) : gb231 ≠ gb268)); have n15_ := Aside0.mk ((by rw [hg]; exact Nat.ne_of_gt (blk_lt (g := gb231) (o := .cells #[.int .u8 ((rd_T54 l0 x5_1).f0), .int .i64 ((rd_T54 l0 x5_1).f1), .int .i64 ((rd_T54 l0 x5_1).f2)] 54 (0, 0)) (by (with_reducible repeat (first | refine blk_drewN ?_ _ | refine blk_drew ?_ | refine blk_alloc ?_ _)); exact BK231.out)) : gb268 ≠ gb231)); clear HO_229001; clear HO_230001; clear HO266; clear BK228; clear BK229; clear BK231; clear HB; have HO_229001 := n0_; have HO_230001 := n1_; have HO266 := n2_; have BK228 := n3_; have BK229 := n4_; have BK231 := n5_; have HB := n6_; have BK268 := n7_; have GW268 := n8_; have GE268 := n9_; have NB228_268 := n10_; have NB268_228 := n11_; have NB229_268 := n12_; have NB268_229 := n13_; have NB231_268 := n14_; have NB268_231 := n15_; clear n0_ n1_ n2_ n3_ n4_ n5_ n6_ n7_ n8_ n9_ n10_ n11_ n12_ n13_ n14_ n15_; clear hb hbox hg; have hnb123 := NB268_228.out; have hnc123 := NB228_268.out; have hnb124 := NB268_229.out; have hnc124 := NB229_268.out; have hnb125 := NB268_231.out; have hnc125 := NB231_268.out; have hcz126_0 : w122.cell? ⟨gb268, 0, none⟩ = some (.int .i64 0) := (blk_cell BK268.out 0).trans rfl; have hcz126_1 : w122.cell? ⟨gb268, 1, none⟩ = some (.slice none 0 0) := (blk_cell BK268.out 1).trans rfl; have hfz126_0 := blk_frozen BK268.out 0; have hfz126_1 := blk_frozen BK268.out 1; obtain ⟨Ao127, co127, eo127⟩ := Kd.R_slice HO266.out; subst eo127) | ((with_reducible refine gate_store (t := 28) (p := 18) rfl ?_); refine store_event (t := 28) (p := 18) (v := ?vo_w128) (w1 := ((w122.setCell ⟨gb268, 0, none⟩ (.int .i64 t263)).setCell ⟨gb268, 1, none⟩ (.slice Ao127 t264.length co127))) ?hg ?ho ?hn ?hr ?_; (case ho => rfl); (case hg => rfl); (case hn => rfl); (case hr => first | (go_simp; done) | (go_simp; rfl)); intro w128 hw; have n0_ : Aside0 (Kd.Q k64 64 w128 w.heap.size (fun k_ => some k_ ≠ (.slice Ao127 t264.length co127 : Value).ownBlock) (.slice Ao120 x229001_1.length co120) x229001_1) := ⟨(by rw [hw]; exact (by (with_reducible repeat (first | apply Kd.Q_alloc | apply Kd.Q_drewN | apply Kd.Q_drew)); exact Kd.Q_mono (Kd.Q_far (p := ⟨gb268, 1, none⟩) (Kd.Q_far (p := ⟨gb268, 0, none⟩) (Kd.Q_types HO_229001.out BK268.out (by decide)) (fun _ hk => hk.2) (.int .i64 t263)) (fun _ hk => hk.2) (.slice Ao127 t264.length co127)) (fun _ hk => hk.1.2)))⟩; have n1_ : Aside0 (Kd.R k46 46 w128 w.heap.size (fun _ => True) u230001 x230001_1) := ⟨(by rw [hw]; exact (by (with_reducible repeat (first | apply Kd.R_alloc | apply Kd.R_drewN | apply Kd.R_drew)); exact Kd.R_mono (Kd.R_far (p := ⟨gb268, 1, none⟩) (Kd.R_far (p := ⟨gb268, 0, none⟩) (Kd.R_types HO_230001.out BK268.out (by decide)) (fun _ hk => hk.2) (.int .i64 t263)) (fun _ hk => hk.2) (.slice Ao127 t264.length co127)) (fun _ hk => trivial)))⟩; have n2_ : Aside0 (Kd.R k64 64 w128 w.heap.size (fun k_ => some k_ ≠ (.slice Ao120 x229001_1.length co120 : Value).ownBlock) (.slice Ao127 t264.length co127) t264) := ⟨(by rw [hw]; exact (by (with_reducible repeat (first | apply Kd.R_alloc | apply Kd.R_drewN | apply Kd.R_drew)); exact Kd.R_mono (Kd.R_far (p := ⟨gb268, 1, none⟩) (Kd.R_far (p := ⟨gb268, 0, none⟩) (Kd.R_types HO266.out BK268.out (by decide)) (fun _ hk => hk.2) (.int .i64 t263)) (fun _ hk => hk.2) (.slice Ao127 t264.length co127)) (fun _ hk => hk.1.2)))⟩; have n3_ : Aside0 (w128.heap[gb228]? = some (.cells #[.int .i64 x229000_1, .slice Ao120 x229001_1.length co120] 28 (0, 0))) := ⟨(by rw [hw]; exact (by (with_reducible repeat (first | refine blk_drewN ?_ _ | refine blk_drew ?_ | refine blk_alloc ?_ _)); refine blk_far ?_ NB228_268.out _; (with_reducible repeat (first | refine blk_drewN ?_ _ | refine blk_drew ?_ | refine blk_alloc ?_ _)); refine blk_far ?_ NB228_268.out _; (with_reducible repeat (first | refine blk_drewN ?_ _ | refine blk_drew ?_ | refine blk_alloc ?_ _)); exact BK228.out))⟩; have n4_ : Aside0 (w128.heap[gb229]? = some (.cells #[.int .i64 x230000_1, u230001] 24 (0, 0))) := ⟨(by rw [hw]; exact (by (with_reducible repeat (first | refine blk_drewN ?_ _ | refine blk_drew ?_ | refine blk_alloc ?_ _)); refine blk_far ?_ NB229_268.out _; (with_reducible repeat (first | refine blk_drewN ?_ _ | refine blk_drew ?_ | refine blk_alloc ?_ _)); refine blk_far ?_ NB229_268.out _; (with_reducible repeat (first | refine blk_drewN ?_ _ | refine blk_drew ?_ | refine blk_alloc ?_ _)); exact BK229.out))⟩; have n5_ : Aside0 (w128.heap[gb231]? = some (.cells #[.int .u8 ((rd_T54 l0 x5_1).f0), .int .i64 ((rd_T54 l0 x5_1).f1), .int .i64 ((rd_T54 l0 x5_1).f2)] 54 (0, 0))) := ⟨(by rw [hw]; exact (by (with_reducible repeat (first | refine blk_drewN ?_ _ | refine blk_drew ?_ | refine blk_alloc ?_ _)); refine blk_far ?_ NB231_268.out _; (with_reducible repeat (first | refine blk_drewN ?_ _ | refine blk_drew ?_ | refine blk_alloc ?_ _)); refine blk_far ?_ NB231_268.out _; (with_reducible repeat (first | refine blk_drewN ?_ _ | refine blk_drew ?_ | refine blk_alloc ?_ _)); exact BK231.out))⟩; have n6_ : Aside0 (w128.heap[gb268]? = some (.cells #[.int .i64 t263, .slice Ao127 t264.length co127] 28 (0, 0))) := ⟨(by rw [hw]; exact (by (with_reducible repeat (first | refine blk_drewN ?_ _ | refine blk_drew ?_ | refine blk_alloc ?_ _)); refine blk_put (cs := #[.int .i64 t263, .slice none 0 0]) ?_ 1 _ rfl; (with_reducible repeat (first | refine blk_drewN ?_ _ | refine blk_drew ?_ | refine blk_alloc ?_ _)); refine blk_put (cs := #[.int .i64 0, .slice none 0 0]) ?_ 0 _ rfl; (with_reducible repeat (first | refine blk_drewN ?_ _ | refine blk_drew ?_ | refine blk_alloc ?_ _)); exact BK268.out))⟩; have n7_ : Aside0 (Below w.heap.size w w128) := ⟨(by rw [hw]; exact (by repeat (first | (with_reducible first | exact HB.out | apply below_alloc | apply pw_below_drewN | apply below_drew1 | refine below_set ?_ GE228.out | refine below_set ?_ GE229.out | refine below_set ?_ GE231.out | refine below_set ?_ GE268.out) | exact HB.out)))⟩; clear hw; clear HO_229001; clear HO_230001; clear HO266; clear BK228; clear BK229; clear BK231; clear BK268; clear HB; have HO_229001 := n0_; have HO_230001 := n1_; have HO266 := n2_; have BK228 := n3_; have BK229 := n4_; have BK231 := n5_; have BK268 := n6_; have HB := n7_; clear n0_ n1_ n2_ n3_ n4_ n5_ n6_ n7_; have hcz129_0 : w128.cell? ⟨gb229, 0, none⟩ = some (.int .i64 x230000_1) := (blk_cell BK229.out 0).trans rfl; have hcz129_1 : w128.cell? ⟨gb229, 1, none⟩ = some (u230001) := (blk_cell BK229.out 1).trans rfl; have hfz129_0 := blk_frozen BK229.out 0; have hfz129_1 := blk_frozen BK229.out 1; have hcz130_0 : w128.cell? ⟨gb231, 0, none⟩ = some (.int .u8 ((rd_T54 l0 x5_1).f0)) := (blk_cell BK231.out 0).trans rfl; have hcz130_1 : w128.cell? ⟨gb231, 1, none⟩ = some (.int .i64 ((rd_T54 l0 x5_1).f1)) := (blk_cell BK231.out 1).trans rfl; have hcz130_2 : w128.cell? ⟨gb231, 2, none⟩ = some (.int .i64 ((rd_T54 l0 x5_1).f2)) := (blk_cell BK231.out 2).trans rfl; have hfz130_0 := blk_frozen BK231.out 0; have hfz130_1 := blk_frozen BK231.out 1; have hfz130_2 := blk_frozen BK231.out 2; obtain ⟨Ao131, co131, eo131⟩ := Kd.R_slice HO_230001.out; subst eo131) | ((with_reducible refine gate_callee (f := 13) rfl ?_); refine goesL_ (some 56) rfl rfl Try.func13 (by kernel_rfl) rfl #[.agg #[.int .i64 x230000_1, .slice Ao131 x230001_1.length co131], .int .i64 ((rd_T54 l0 x5_1).f1), .int .i64 ((rd_T54 l0 x5_1).f2)] rfl (by (try simp only [List.map_toArray, List.map_cons, List.map_nil]); first | done | rfl | (simp only [List.length_drop, List.length_take]; rfl)) ?_; (with_reducible refine (waystationref06_Set.calls kj47 x230000_1 (fun k_ => some k_ = (.slice Ao131 x230001_1.length co131 : Value).ownBlock) (.slice Ao131 x230001_1.length co131) x230001_1 ((rd_T54 l0 x5_1).f1) ((rd_T54 l0 x5_1).f2) t269 t270 t273 w _ ?side1 ?side2 A114.out).mono ?_); (case side1 => repeat (first | (with_reducible first | exact HB.out | apply below_alloc | apply pw_below_drewN | apply below_drew1 | refine below_set ?_ GE228.out | refine below_set ?_ GE229.out | refine below_set ?_ GE231.out | refine below_set ?_ GE268.out) | exact HB.out)); (case side2 => exact Kd.R_tight rfl HO_230001.out); rintro e w132 ⟨v271, rfl, ho0, hb, hkp⟩; refine ⟨_, rfl, ?_⟩; have n0_ := Aside0.mk (Kd.Q_mono (ok' := fun k_ => some k_ ≠ (.slice Ao127 t264.length co127 : Value).ownBlock) (Kd.Q_keptB ((Kd.Q_apart' HO_229001.out (Kd.R_typed HO_230001.out) (by decide))) hkp (fun k_ hk_ hs_ => (hk_.2) hs_)) (fun k_ hk_ => hk_.1.1)); have n1_ := Aside0.mk (blk_kept (by (with_reducible repeat (first | refine blk_drewN ?_ _ | refine blk_drew ?_ | refine blk_alloc ?_ _)); exact BK228.out) hkp (fun hs_ => (fun e_ => (Kd.R_ne HO_230001.out BK228.out (by decide)) e_) hs_)); have n2_ := Aside0.mk (blk_kept (by (with_reducible repeat (first | refine blk_drewN ?_ _ | refine blk_drew ?_ | refine blk_alloc ?_ _)); exact BK229.out) hkp (fun hs_ => (fun e_ => (Kd.R_ne HO_230001.out BK229.out (by decide)) e_) hs_)); have n3_ := Aside0.mk (blk_kept (by (with_reducible repeat (first | refine blk_drewN ?_ _ | refine blk_drew ?_ | refine blk_alloc ?_ _)); exact BK231.out) hkp (fun hs_ => (fun e_ => (Kd.R_ne HO_230001.out BK231.out (by decide)) e_) hs_)); have n4_ := Aside0.mk (Kd.R_mono (ok' := fun k_ => some k_ ≠ (.slice Ao120 x229001_1.length co120 : Value).ownBlock) (Kd.R_keptB ((Kd.R_apart' HO266.out (Kd.R_typed HO_230001.out) (by decide))) hkp (fun k_ hk_ hs_ => (hk_.2) hs_)) (fun k_ hk_ => hk_.1.1)); have n5_ := Aside0.mk (blk_kept (by (with_reducible repeat (first | refine blk_drewN ?_ _ | refine blk_drew ?_ | refine blk_alloc ?_ _)); exact BK268.out) hkp (fun hs_ => (fun e_ => (Kd.R_ne HO_230001.out BK268.out (by decide)) e_) hs_)); have n6_ := Aside0.mk (Kd.R_mono (ok' := fun k_ => True) ho0 (fun k_ hk_ => trivial)); have n7_ := Aside0.mk (hb); clear HO_229001; clear BK228; clear BK229; clear BK231; clear HO266; clear BK268; clear HB; clear HO_230001; have HO_229001 := n0_; have BK228 := n1_; have BK229 := n2_; have BK231 := n3_; have HO266 := n4_; have BK268 := n5_; have HO272 := n6_; have HB := n7_; clear n0_ n1_ n2_ n3_ n4_ n5_ n6_ n7_; (try clear hb); (try clear hkp); (try clear ho0)) | ((with_reducible refine gate_dst (N := 20) rfl ?_); refine box_event ?hg (N := 20) ?hd (cs := #[.int .i64 0, .slice none 0 0]) (t := 24) ?hr ?_; (case hd => rfl); (case hg => rfl); (case hr => first | (go_simp; done) | (go_simp; rfl)); intro gb274 hg w133 hbox hb; have n0_ := Aside0.mk (Kd.Q_below (by (with_reducible repeat (first | apply Kd.Q_alloc | apply Kd.Q_drewN | apply Kd.Q_drew)); exact HO_229001.out) hb); have n1_ := Aside0.mk (Kd.R_below (by (with_reducible repeat (first | apply Kd.R_alloc | apply Kd.R_drewN | apply Kd.R_drew)); exact HO266.out) hb); have n2_ := Aside0.mk (Kd.R_below (by (with_reducible repeat (first | apply Kd.R_alloc | apply Kd.R_drewN | apply Kd.R_drew)); exact HO272.out) hb); have n3_ := Aside0.mk (blk_below (g := gb228) (o := .cells #[.int .i64 x229000_1, .slice Ao120 x229001_1.length co120] 28 (0, 0)) (by (with_reducible repeat (first | refine blk_drewN ?_ _ | refine blk_drew ?_ | refine blk_alloc ?_ _)); exact BK228.out) hb); have n4_ := Aside0.mk (blk_below (g := gb229) (o := .cells #[.int .i64 x230000_1, .slice Ao131 x230001_1.length co131] 24 (0, 0)) (by (with_reducible repeat (first | refine blk_drewN ?_ _ | refine blk_drew ?_ | refine blk_alloc ?_ _)); exact BK229.out) hb); have n5_ := Aside0.mk (blk_below (g := gb231) (o := .cells #[.int .u8 ((rd_T54 l0 x5_1).f0), .int .i64 ((rd_T54 l0 x5_1).f1), .int .i64 ((rd_T54 l0 x5_1).f2)] 54 (0, 0)) (by (with_reducible repeat (first | refine blk_drewN ?_ _ | refine blk_drew ?_ | refine blk_alloc ?_ _)); exact BK231.out) hb); have n6_ := Aside0.mk (blk_below (g := gb268) (o := .cells #[.int .i64 t263, .slice Ao127 t264.length co127] 28 (0, 0)) (by (with_reducible repeat (first | refine blk_drewN ?_ _ | refine blk_drew ?_ | refine blk_alloc ?_ _)); exact BK268.out) hb); have n7_ := Aside0.mk (below_step (by repeat (first | (with_reducible first | exact HB.out | apply below_alloc | apply pw_below_drewN | apply below_drew1 | refine below_set ?_ GE228.out | refine below_set ?_ GE229.out | refine below_set ?_ GE231.out | refine below_set ?_ GE268.out) | exact HB.out)) hb); have n8_ := Aside0.mk (hbox); have n9_ := Aside0.mk ((by rw [hg]; exact (below_size (by repeat (first | (with_reducible first | exact HB.out | apply below_alloc | apply pw_below_drewN | apply below_drew1 | refine below_set ?_ GE228.out | refine below_set ?_ GE229.out | refine below_set ?_ GE231.out | refine below_set ?_ GE268.out) | exact HB.out))) : w.heap.size ≤ gb274)); have n10_ := Aside0.mk ((by rw [hg]; exact (below_size (by repeat (first | (with_reducible first | exact HB.out | apply below_alloc | apply pw_below_drewN | apply below_drew1 | refine below_set ?_ GE228.out | refine below_set ?_ GE229.out | refine below_set ?_ GE231.out | refine below_set ?_ GE268.out) | exact HB.out))) : w.heap.size ≤ gb274)); have n11_ := Aside0.mk ((by rw [hg]; exact Nat.ne_of_lt (blk_lt (g := gb228) (o := .cells #[.int .i64 x229000_1, .slice Ao120 x229001_1.length co120] 28 (0, 0)) (by (with_reducible repeat (first | refine blk_drewN ?_ _ | refine blk_drew ?_ | refine blk_alloc ?_ _)); exact BK228.out)) : gb228 ≠ gb274)); have n12_ := Aside0.mk ((by rw [hg]; exact Nat.ne_of_gt (blk_lt (g := gb228) (o := .cells #[.int .i64 x229000_1, .slice Ao120 x229001_1.length co120] 28 (0, 0)) (by (with_reducible repeat (first | refine blk_drewN ?_ _ | refine blk_drew ?_ | refine blk_alloc ?_ _)); exact BK228.out)) : gb274 ≠ gb228)); have n13_ := Aside0.mk ((by rw [hg]; exact Nat.ne_of_lt (blk_lt (g := gb229) (o := .cells #[.int .i64 x230000_1, .slice Ao131 x230001_1.length co131] 24 (0, 0)) (by (with_reducible repeat (first | refine blk_drewN ?_ _ | refine blk_drew ?_ | refine blk_alloc ?_ _)); exact BK229.out)) : gb229 ≠ gb274)); have n14_ := Aside0.mk ((by rw [hg]; exact Nat.ne_of_gt (blk_lt (g := gb229) (o := .cells #[.int .i64 x230000_1, .slice Ao131 x230001_1.length co131] 24 (0, 0)) (by (with_reducible repeat (first | refine blk_drewN ?_ _ | refine blk_drew ?_ | refine blk_alloc ?_ _)); exact BK229.out)) : gb274 ≠ gb229)); have n15_ := Aside0.mk ((by rw [hg]; exact Nat.ne_of_lt (blk_lt (g := gb231) (o := .cells #[.int .u8 ((rd_T54 l0 x5_1).f0), .int .i64 ((rd_T54 l0 x5_1).f1), .int .i64 ((rd_T54 l0 x5_1).f2)] 54 (0, 0)) (by (with_reducible repeat (first | refine blk_drewN ?_ _ | refine blk_drew ?_ | refine blk_alloc ?_ _)); exact BK231.out)) : gb231 ≠ gb274)); have n16_ := Aside0.mk ((by rw [hg]; exact Nat.ne_of_gt (blk_lt (g := gb231) (o := .cells #[.int .u8 ((rd_T54 l0 x5_1).f0), .int .i64 ((rd_T54 l0 x5_1).f1), .int .i64 ((rd_T54 l0 x5_1).f2)] 54 (0, 0)) (by (with_reducible repeat (first | refine blk_drewN ?_ _ | refine blk_drew ?_ | refine blk_alloc ?_ _)); exact BK231.out)) : gb274 ≠ gb231)); have n17_ := Aside0.mk ((by rw [hg]; exact Nat.ne_of_lt (blk_lt (g := gb268) (o := .cells #[.int .i64 t263, .slice Ao127 t264.length co127] 28 (0, 0)) (by (with_reducible repeat (first | refine blk_drewN ?_ _ | refine blk_drew ?_ | refine blk_alloc ?_ _)); exact BK268.out)) : gb268 ≠ gb274)); have n18_ := Aside0.mk ((by rw [hg]; exact Nat.ne_of_gt (blk_lt (g := gb268) (o := .cells #[.int .i64 t263, .slice Ao127 t264.length co127] 28 (0, 0)) (by (with_reducible repeat (first | refine blk_drewN ?_ _ | refine blk_drew ?_ | refine blk_alloc ?_ _)); exact BK268.out)) : gb274 ≠ gb268)); clear HO_229001; clear HO266; clear HO272; clear BK228; clear BK229; clear BK231; clear BK268; clear HB; have HO_229001 := n0_; have HO266 := n1_; have HO272 := n2_; have BK228 := n3_; have BK229 := n4_; have BK231 := n5_; have BK268 := n6_; have HB := n7_; have BK274 := n8_; have GW274 := n9_; have GE274 := n10_; have NB228_274 := n11_; have NB274_228 := n12_; have NB229_274 := n13_; have NB274_229 := n14_; have NB231_274 := n15_; have NB274_231 := n16_; have NB268_274 := n17_; have NB274_268 := n18_; clear n0_ n1_ n2_ n3_ n4_ n5_ n6_ n7_ n8_ n9_ n10_ n11_ n12_ n13_ n14_ n15_ n16_ n17_ n18_; clear hb hbox hg; have hnb134 := NB274_228.out; have hnc134 := NB228_274.out; have hnb135 := NB274_229.out; have hnc135 := NB229_274.out; have hnb136 := NB274_231.out; have hnc136 := NB231_274.out; have hnb137 := NB274_268.out; have hnc137 := NB268_274.out; have hcz138_0 : w133.cell? ⟨gb274, 0, none⟩ = some (.int .i64 0) := (blk_cell BK274.out 0).trans rfl; have hcz138_1 : w133.cell? ⟨gb274, 1, none⟩ = some (.slice none 0 0) := (blk_cell BK274.out 1).trans rfl; have hfz138_0 := blk_frozen BK274.out 0; have hfz138_1 := blk_frozen BK274.out 1; obtain ⟨Ao139, co139, eo139⟩ := Kd.R_slice HO272.out; subst eo139; have hcz140_0 : w133.cell? ⟨gb268, 0, none⟩ = some (.int .i64 t263) := (blk_cell BK268.out 0).trans rfl; have hcz140_1 : w133.cell? ⟨gb268, 1, none⟩ = some (.slice Ao127 t264.length co127) := (blk_cell BK268.out 1).trans rfl; have hfz140_0 := blk_frozen BK268.out 0; have hfz140_1 := blk_frozen BK268.out 1; have hcz141_0 : w133.cell? ⟨gb228, 0, none⟩ = some (.int .i64 x229000_1) := (blk_cell BK228.out 0).trans rfl; have hcz141_1 : w133.cell? ⟨gb228, 1, none⟩ = some (.slice Ao120 x229001_1.length co120) := (blk_cell BK228.out 1).trans rfl; have hfz141_0 := blk_frozen BK228.out 0; have hfz141_1 := blk_frozen BK228.out 1; have hcz142_0 : w133.cell? ⟨gb229, 0, none⟩ = some (.int .i64 x230000_1) := (blk_cell BK229.out 0).trans rfl; have hcz142_1 : w133.cell? ⟨gb229, 1, none⟩ = some (.slice Ao131 x230001_1.length co131) := (blk_cell BK229.out 1).trans rfl; have hfz142_0 := blk_frozen BK229.out 0; have hfz142_1 := blk_frozen BK229.out 1))
                            go_meet
                            case rel => exact ⟨_, ((t267 == t273)), (t263), (t264), (t269), (t270), (.slice Ao127 t264.length co127), (.slice Ao139 t270.length co139), (by first | rfl | (simp; done) | (simp [*]; done)), H', ⟨by have := HK1.out; have := HJ6.out; have := HJ47.out; first | omega | exact Nat.le_refl _⟩, ⟨Kd.Q_of_R (by (with_reducible repeat (first | apply Kd.R_alloc | apply Kd.R_drewN | apply Kd.R_drew)); exact Kd.R_mono (Kd.R_far (p := ⟨gb229, 1, none⟩) (Kd.R_far (p := ⟨gb229, 0, none⟩) (Kd.R_far (p := ⟨gb228, 1, none⟩) (Kd.R_far (p := ⟨gb228, 0, none⟩) (Kd.R_far (p := ⟨gb274, 1, none⟩) (Kd.R_far (p := ⟨gb274, 0, none⟩) (Kd.R_types (Kd.R_types (Kd.R_types HO266.out BK274.out (by decide)) BK228.out (by decide)) BK229.out (by decide)) (fun _ hk => hk.1.1.2) (.int .i64 t269)) (fun _ hk => hk.1.1.2) (.slice Ao139 t270.length co139)) (fun _ hk => hk.1.2) (.int .i64 t263)) (fun _ hk => hk.1.2) (.slice Ao127 t264.length co127)) (fun _ hk => hk.2) (.int .i64 t269)) (fun _ hk => hk.2) (.slice Ao139 t270.length co139)) (fun _ hk => trivial))⟩, ⟨by (with_reducible repeat (first | apply Kd.R_alloc | apply Kd.R_drewN | apply Kd.R_drew)); exact Kd.R_mono (Kd.R_far (p := ⟨gb229, 1, none⟩) (Kd.R_far (p := ⟨gb229, 0, none⟩) (Kd.R_far (p := ⟨gb228, 1, none⟩) (Kd.R_far (p := ⟨gb228, 0, none⟩) (Kd.R_far (p := ⟨gb274, 1, none⟩) (Kd.R_far (p := ⟨gb274, 0, none⟩) (Kd.R_types (Kd.R_types (Kd.R_types HO272.out BK274.out (by decide)) BK228.out (by decide)) BK229.out (by decide)) (fun _ hk => hk.1.1.2) (.int .i64 t269)) (fun _ hk => hk.1.1.2) (.slice Ao139 t270.length co139)) (fun _ hk => hk.1.2) (.int .i64 t263)) (fun _ hk => hk.1.2) (.slice Ao127 t264.length co127)) (fun _ hk => hk.2) (.int .i64 t269)) (fun _ hk => hk.2) (.slice Ao139 t270.length co139)) (fun _ hk => trivial)⟩, ⟨by (with_reducible repeat (first | refine blk_drewN ?_ _ | refine blk_drew ?_ | refine blk_alloc ?_ _)); refine blk_far ?_ NB228_229.out _; (with_reducible repeat (first | refine blk_drewN ?_ _ | refine blk_drew ?_ | refine blk_alloc ?_ _)); refine blk_far ?_ NB228_229.out _; (with_reducible repeat (first | refine blk_drewN ?_ _ | refine blk_drew ?_ | refine blk_alloc ?_ _)); refine blk_put (cs := #[.int .i64 t263, .slice Ao120 x229001_1.length co120]) ?_ 1 _ rfl; (with_reducible repeat (first | refine blk_drewN ?_ _ | refine blk_drew ?_ | refine blk_alloc ?_ _)); refine blk_put (cs := #[.int .i64 x229000_1, .slice Ao120 x229001_1.length co120]) ?_ 0 _ rfl; (with_reducible repeat (first | refine blk_drewN ?_ _ | refine blk_drew ?_ | refine blk_alloc ?_ _)); refine blk_far ?_ NB228_274.out _; (with_reducible repeat (first | refine blk_drewN ?_ _ | refine blk_drew ?_ | refine blk_alloc ?_ _)); refine blk_far ?_ NB228_274.out _; (with_reducible repeat (first | refine blk_drewN ?_ _ | refine blk_drew ?_ | refine blk_alloc ?_ _)); exact BK228.out⟩, ⟨by (with_reducible repeat (first | refine blk_drewN ?_ _ | refine blk_drew ?_ | refine blk_alloc ?_ _)); refine blk_put (cs := #[.int .i64 t269, .slice Ao131 x230001_1.length co131]) ?_ 1 _ rfl; (with_reducible repeat (first | refine blk_drewN ?_ _ | refine blk_drew ?_ | refine blk_alloc ?_ _)); refine blk_put (cs := #[.int .i64 x230000_1, .slice Ao131 x230001_1.length co131]) ?_ 0 _ rfl; (with_reducible repeat (first | refine blk_drewN ?_ _ | refine blk_drew ?_ | refine blk_alloc ?_ _)); refine blk_far ?_ NB229_228.out _; (with_reducible repeat (first | refine blk_drewN ?_ _ | refine blk_drew ?_ | refine blk_alloc ?_ _)); refine blk_far ?_ NB229_228.out _; (with_reducible repeat (first | refine blk_drewN ?_ _ | refine blk_drew ?_ | refine blk_alloc ?_ _)); refine blk_far ?_ NB229_274.out _; (with_reducible repeat (first | refine blk_drewN ?_ _ | refine blk_drew ?_ | refine blk_alloc ?_ _)); refine blk_far ?_ NB229_274.out _; (with_reducible repeat (first | refine blk_drewN ?_ _ | refine blk_drew ?_ | refine blk_alloc ?_ _)); exact BK229.out⟩, ⟨by (with_reducible repeat (first | refine blk_drewN ?_ _ | refine blk_drew ?_ | refine blk_alloc ?_ _)); refine blk_far ?_ NB231_229.out _; (with_reducible repeat (first | refine blk_drewN ?_ _ | refine blk_drew ?_ | refine blk_alloc ?_ _)); refine blk_far ?_ NB231_229.out _; (with_reducible repeat (first | refine blk_drewN ?_ _ | refine blk_drew ?_ | refine blk_alloc ?_ _)); refine blk_far ?_ NB231_228.out _; (with_reducible repeat (first | refine blk_drewN ?_ _ | refine blk_drew ?_ | refine blk_alloc ?_ _)); refine blk_far ?_ NB231_228.out _; (with_reducible repeat (first | refine blk_drewN ?_ _ | refine blk_drew ?_ | refine blk_alloc ?_ _)); refine blk_far ?_ NB231_274.out _; (with_reducible repeat (first | refine blk_drewN ?_ _ | refine blk_drew ?_ | refine blk_alloc ?_ _)); refine blk_far ?_ NB231_274.out _; (with_reducible repeat (first | refine blk_drewN ?_ _ | refine blk_drew ?_ | refine blk_alloc ?_ _)); exact BK231.out⟩, ⟨by repeat (first | (with_reducible first | exact HB.out | apply below_alloc | apply pw_below_drewN | apply below_drew1 | refine below_set ?_ GE228.out | refine below_set ?_ GE229.out | refine below_set ?_ GE231.out | refine below_set ?_ GE268.out | refine below_set ?_ GE274.out) | exact HB.out)⟩⟩
                  case rest =>
                    clear HC12
                    try clear c1
                    try clear c2
                    try clear p2
                    try clear q2
                    try clear hx2
                    try clear c3
                    try clear c4
                    try clear c5
                    try clear c6
                    try clear c7
                    try clear c8
                    try clear c8b0
                    try clear c9
                    try clear c10
                    try clear c10b0
                    try clear c11
                    try clear c11b0
                    try clear c12
                    try clear c13
                    try clear c14
                    try clear c15
                    try clear c16
                    try clear c17
                    try clear c17b0
                    try clear c17b1
                    try clear c20
                    try clear c21
                    try clear c23
                    try clear p23
                    try clear q23
                    try clear hx23
                    try clear c28
                    try clear c29
                    try clear c30
                    try clear c39
                    try clear c40
                    try clear c41
                    try clear c42
                    try clear c49
                    try clear c49b0
                    try clear c49b1
                    try clear c50
                    try clear c53
                    try clear c53b0
                    try clear c53b1
                    try clear c55
                    try clear c56
                    try clear c58
                    try clear c63
                    try clear c64
                    try clear c65
                    try clear c74
                    try clear c75
                    try clear c76
                    try clear c77
                    try clear c85
                    try clear c86
                    try clear c88
                    try clear c93
                    try clear c94
                    try clear c95
                    try clear c104
                    try clear c105
                    try clear c106
                    try clear c107
                    try clear c115
                    try clear c116
                    try clear c118
                    try clear c123
                    try clear c124
                    try clear c125
                    try clear c134
                    try clear c135
                    try clear c136
                    try clear c137
                    try clear hcz100_0
                    try clear hcz100_1
                    try clear hcz100_2
                    try clear hcz108_0
                    try clear hcz108_1
                    try clear hcz110_0
                    try clear hcz110_1
                    try clear hcz111_0
                    try clear hcz111_1
                    try clear hcz112_0
                    try clear hcz112_1
                    try clear hcz117_0
                    try clear hcz117_1
                    try clear hcz119_0
                    try clear hcz119_1
                    try clear hcz119_2
                    try clear hcz126_0
                    try clear hcz126_1
                    try clear hcz129_0
                    try clear hcz129_1
                    try clear hcz130_0
                    try clear hcz130_1
                    try clear hcz130_2
                    try clear hcz138_0
                    try clear hcz138_1
                    try clear hcz140_0
                    try clear hcz140_1
                    try clear hcz141_0
                    try clear hcz141_1
                    try clear hcz142_0
                    try clear hcz142_1
                    try clear hcz16_0
                    try clear hcz16_1
                    try clear hcz16_2
                    try clear hcz22_0
                    try clear hcz22_1
                    try clear hcz24_0
                    try clear hcz24_1
                    try clear hcz24_2
                    try clear hcz31_0
                    try clear hcz31_1
                    try clear hcz34_0
                    try clear hcz34_1
                    try clear hcz35_0
                    try clear hcz35_1
                    try clear hcz35_2
                    try clear hcz43_0
                    try clear hcz43_1
                    try clear hcz45_0
                    try clear hcz45_1
                    try clear hcz46_0
                    try clear hcz46_1
                    try clear hcz47_0
                    try clear hcz47_1
                    try clear hcz57_0
                    try clear hcz57_1
                    try clear hcz59_0
                    try clear hcz59_1
                    try clear hcz59_2
                    try clear hcz66_0
                    try clear hcz66_1
                    try clear hcz69_0
                    try clear hcz69_1
                    try clear hcz70_0
                    try clear hcz70_1
                    try clear hcz70_2
                    try clear hcz78_0
                    try clear hcz78_1
                    try clear hcz80_0
                    try clear hcz80_1
                    try clear hcz81_0
                    try clear hcz81_1
                    try clear hcz82_0
                    try clear hcz82_1
                    try clear hcz87_0
                    try clear hcz87_1
                    try clear hcz89_0
                    try clear hcz89_1
                    try clear hcz89_2
                    try clear hcz96_0
                    try clear hcz96_1
                    try clear hcz99_0
                    try clear hcz99_1
                    try clear hfz100_0
                    try clear hfz100_1
                    try clear hfz100_2
                    try clear hfz108_0
                    try clear hfz108_1
                    try clear hfz110_0
                    try clear hfz110_1
                    try clear hfz111_0
                    try clear hfz111_1
                    try clear hfz112_0
                    try clear hfz112_1
                    try clear hfz117_0
                    try clear hfz117_1
                    try clear hfz119_0
                    try clear hfz119_1
                    try clear hfz119_2
                    try clear hfz126_0
                    try clear hfz126_1
                    try clear hfz129_0
                    try clear hfz129_1
                    try clear hfz130_0
                    try clear hfz130_1
                    try clear hfz130_2
                    try clear hfz138_0
                    try clear hfz138_1
                    try clear hfz140_0
                    try clear hfz140_1
                    try clear hfz141_0
                    try clear hfz141_1
                    try clear hfz142_0
                    try clear hfz142_1
                    try clear hfz16_0
                    try clear hfz16_1
                    try clear hfz16_2
                    try clear hfz22_0
                    try clear hfz22_1
                    try clear hfz24_0
                    try clear hfz24_1
                    try clear hfz24_2
                    try clear hfz31_0
                    try clear hfz31_1
                    try clear hfz34_0
                    try clear hfz34_1
                    try clear hfz35_0
                    try clear hfz35_1
                    try clear hfz35_2
                    try clear hfz43_0
                    try clear hfz43_1
                    try clear hfz45_0
                    try clear hfz45_1
                    try clear hfz46_0
                    try clear hfz46_1
                    try clear hfz47_0
                    try clear hfz47_1
                    try clear hfz57_0
                    try clear hfz57_1
                    try clear hfz59_0
                    try clear hfz59_1
                    try clear hfz59_2
                    try clear hfz66_0
                    try clear hfz66_1
                    try clear hfz69_0
                    try clear hfz69_1
                    try clear hfz70_0
                    try clear hfz70_1
                    try clear hfz70_2
                    try clear hfz78_0
                    try clear hfz78_1
                    try clear hfz80_0
                    try clear hfz80_1
                    try clear hfz81_0
                    try clear hfz81_1
                    try clear hfz82_0
                    try clear hfz82_1
                    try clear hfz87_0
                    try clear hfz87_1
                    try clear hfz89_0
                    try clear hfz89_1
                    try clear hfz89_2
                    try clear hfz96_0
                    try clear hfz96_1
                    try clear hfz99_0
                    try clear hfz99_1
                    try clear hx230_0
                    try clear hx230_1
                    try clear hx230_2
                    try clear p2
                    try clear p23
                    try clear p230
                    try clear q2
                    try clear q23
                    try clear q230
                    obtain ⟨kq, x7_11, x229000_11, x229001_11, x230000_11, x230001_11, u229001, u230001, rfl, HA, HJ11, HO_229001, HO_230001, BK228, BK229, BK231, HB⟩ := hcut
                    cases kq with
                    | zero => exact absurd HA.out (by simp [waystationlaw06_WheelRow.j3])
                    | succ kj11 =>
                      have H := HA.out
                      clear HA
                      simp only [waystationlaw06_WheelRow.j3] at H
                      by_cases c143 : x7_11 = true
                      · subst c143
                        have H1 : ((waystationlaw06_Ours.f kj11 x229000_11 x229001_11).bind fun bt275 => ((waystationref06_Same.f kj11 bt275.1 bt275.2 x230000_11 x230001_11).bind fun t279 => (if t279 = true then ((wheel_Right.f x229000_11 x229001_11).bind fun t280 => (if t280 = true then (waystationlaw06_WheelRow.l0 kj11 l0 (wrap64 (x5_1 + 1)) x229000_11 x229001_11 x230000_11 x230001_11) else (some false))) else (some false)))) = some r := by rw [if_pos rfl] at H; exact H
                        clear H
                        have H := H1
                        clear H1
                        replace H := Option.bind_eq_some_iff.mp H
                        obtain ⟨⟨t275, t276⟩, A1440, H⟩ := H
                        replace H : ((waystationref06_Same.f kj11 t275 t276 x230000_11 x230001_11).bind fun t279 => (if t279 = true then ((wheel_Right.f x229000_11 x229001_11).bind fun t280 => (if t280 = true then (waystationlaw06_WheelRow.l0 kj11 l0 (wrap64 (x5_1 + 1)) x229000_11 x229001_11 x230000_11 x230001_11) else (some false))) else (some false))) = some r := H
                        have A144 := Aside0.mk A1440
                        clear A1440
                        replace H := Option.bind_eq_some_iff.mp H
                        obtain ⟨t279, A1450, H⟩ := H
                        replace H : (if t279 = true then ((wheel_Right.f x229000_11 x229001_11).bind fun t280 => (if t280 = true then (waystationlaw06_WheelRow.l0 kj11 l0 (wrap64 (x5_1 + 1)) x229000_11 x229001_11 x230000_11 x230001_11) else (some false))) else (some false)) = some r := H
                        have A145 := Aside0.mk A1450
                        clear A1450
                        by_cases c146 : t279 = true
                        · subst c146
                          have H1 : ((wheel_Right.f x229000_11 x229001_11).bind fun t280 => (if t280 = true then (waystationlaw06_WheelRow.l0 kj11 l0 (wrap64 (x5_1 + 1)) x229000_11 x229001_11 x230000_11 x230001_11) else (some false))) = some r := by rw [if_pos rfl] at H; exact H
                          clear H
                          have H := H1
                          clear H1
                          replace H := Option.bind_eq_some_iff.mp H
                          obtain ⟨t280, A1470, H⟩ := H
                          replace H : (if t280 = true then (waystationlaw06_WheelRow.l0 kj11 l0 (wrap64 (x5_1 + 1)) x229000_11 x229001_11 x230000_11 x230001_11) else (some false)) = some r := H
                          have A147 := Aside0.mk A1470
                          clear A1470
                          by_cases c148 : t280 = true
                          · subst c148
                            have H1 : (waystationlaw06_WheelRow.l0 kj11 l0 (wrap64 (x5_1 + 1)) x229000_11 x229001_11 x230000_11 x230001_11) = some r := by rw [if_pos rfl] at H; exact H
                            clear H
                            have H := H1
                            clear H1
                            have H' := Aside0.mk H
                            clear H
                            try go_wp2
                            have n0_ := Aside0.mk (Kd.Q_drew HO_229001.out)
                            have n1_ := Aside0.mk (Kd.R_drew HO_230001.out)
                            have n2_ := Aside0.mk (blk_drew BK228.out)
                            have n3_ := Aside0.mk (blk_drew BK229.out)
                            have n4_ := Aside0.mk (blk_drew BK231.out)
                            have n5_ := Aside0.mk (below_drew1 HB.out)
                            clear HO_229001
                            clear HO_230001
                            clear BK228
                            clear BK229
                            clear BK231
                            clear HB
                            have HO_229001 := n0_
                            have HO_230001 := n1_
                            have BK228 := n2_
                            have BK229 := n3_
                            have BK231 := n4_
                            have HB := n5_
                            clear n0_ n1_ n2_ n3_ n4_ n5_
                            obtain ⟨Ao150, co150, eo150, _⟩ := Kd.Q_slice HO_229001.out
                            (first | subst eo150 | (injection eo150 with f1_ f2_ f3_; have f4_ := f1_.symm; have f5_ := f3_.symm; clear f1_ f2_ f3_; subst f4_; subst f5_))
                            refine start_ (n := 14) (S := fun w' => w'.cell? ⟨gb228, 0, none⟩ = some (.int .i64 x229000_11) ∧ w'.cell? ⟨gb228, 1, none⟩ = some (.slice Ao150 x229001_11.length co150) ∧ w'.cell? ⟨gb229, 0, none⟩ = some (.int .i64 x230000_11) ∧ w'.cell? ⟨gb229, 1, none⟩ = some (u230001)) (ds := []) #[false, false, false, false, false, false, false, false, false, false, false, false, false, false] (by kernel_rfl) rfl rfl ⟨(blk_cell BK228.out 0).trans rfl, (blk_cell BK228.out 1).trans rfl, (blk_cell BK229.out 0).trans rfl, (blk_cell BK229.out 1).trans rfl⟩ (fun hHeld => ?_); refine with_tabW waystationlaw06_WheelRow.tab29 waystationlaw06_WheelRow.bits29 (fun HT_ HW_ => ?_)
                            generalize wc.drew = w149 at HO_229001 HO_230001 BK228 BK229 BK231 HB hHeld ⊢
                            refine pure_ (i := 0) (N := some 114) (v := ?_) (a' := ?_) #[true, false, false, false, false, false, false, false, false, false, false, false, false, false] rfl rfl (any_of HT_.out (by kernel_rfl)) (fun _ _ _ h => h) (Or.inl ⟨by rfl, ?_⟩) ?_ ?_
                            rotate_left
                            · intro w'
                              go_simp
                              with_reducible rfl
                            rotate_left
                            · simp only [Act.put, List.setIfInBounds_toArray, List.set_cons_zero, List.set_cons_succ, i64_w, i32_w]
                              rfl
                            refine pure_ (i := 1) (N := some 115) (v := ?_) (a' := ?_) #[true, true, false, false, false, false, false, false, false, false, false, false, false, false] rfl rfl (any_of HT_.out (by kernel_rfl)) (fun _ _ _ h => h) (Or.inl ⟨by rfl, ?_⟩) ?_ ?_
                            rotate_left
                            · intro w'
                              go_simp
                              with_reducible rfl
                            rotate_left
                            · simp only [Act.put, List.setIfInBounds_toArray, List.set_cons_zero, List.set_cons_succ, i64_w, i32_w]
                              rfl
                            refine pure_ (i := 2) (N := some 116) (v := ?_) (a' := ?_) #[true, true, true, false, false, false, false, false, false, false, false, false, false, false] rfl rfl (any_of HT_.out (by kernel_rfl)) (fun _ _ _ h => h) (Or.inl ⟨by rfl, ?_⟩) ?_ ?_
                            rotate_left
                            · intro w'
                              go_simp
                              with_reducible rfl
                            rotate_left
                            · simp only [Act.put, List.setIfInBounds_toArray, List.set_cons_zero, List.set_cons_succ, i64_w, i32_w]
                              rfl
                            refine take_ (i := 3) (N := some 117) (v := ?_) (a' := ?_) #[true, true, true, true, false, false, false, false, false, false, false, false, false, false] rfl rfl (take_ofW HT_.out HW_.out (by kernel_rfl)) (fun _ _ _ h => h) (Or.inl ⟨by rfl, ?_⟩) hHeld ?_ ?_
                            rotate_left
                            · rintro w' ⟨s0, s1, s2, s3⟩
                              go_simp
                              with_reducible rfl
                            rotate_left
                            · simp only [Act.put, List.setIfInBounds_toArray, List.set_cons_zero, List.set_cons_succ, i64_w, i32_w]
                              rfl
                            refine take_ (i := 5) (N := some 119) (v := ?_) (a' := ?_) #[true, true, true, true, false, true, false, false, false, false, false, false, false, false] rfl rfl (take_ofW HT_.out HW_.out (by kernel_rfl)) (fun _ _ _ h => h) (Or.inl ⟨by rfl, ?_⟩) hHeld ?_ ?_
                            rotate_left
                            · rintro w' ⟨s0, s1, s2, s3⟩
                              go_simp
                              with_reducible rfl
                            rotate_left
                            · simp only [Act.put, List.setIfInBounds_toArray, List.set_cons_zero, List.set_cons_succ, i64_w, i32_w]
                              rfl
                            refine one_ (i := 4) (N := some 118) #[true, true, true, true, true, true, false, false, false, false, false, false, false, false] rfl rfl (one_of HT_.out (by kernel_rfl)) (by decide) (fun K hK => ?_)
                            refine goes_ Try.func22 (by kernel_rfl) rfl #[.agg #[.int .i64 x229000_11, .slice Ao150 x229001_11.length co150]] (by rfl) rfl rfl (by (try simp only [List.map_toArray, List.map_cons, List.map_nil]); first | done | rfl | (simp only [List.length_drop, List.length_take]; rfl)) ?_
                            with_reducible refine (waystationlaw06_Ours.calls kj11 x229000_11 _ _ x229001_11 t275 t276 _ ?side1 ?side2 A144.out).mono ?_
                            (case side1 => repeat (first | exact (Kd.Q_reads' HO_229001.out).2.2 | (with_reducible refine Kd.C_alloc ?_ _) | (with_reducible refine Kd.C_drewN ?_ _) | (with_reducible refine Kd.C_drew ?_)))
                            (case side2 => exact (Kd.Q_reads' HO_229001.out).2.1)
                            rintro e w151 ⟨v277, rfl, ho0, hb⟩
                            refine ⟨_, rfl, ?_⟩
                            have n0_ := Aside0.mk (Kd.Q_below (by (with_reducible repeat (first | apply Kd.Q_alloc | apply Kd.Q_drewN | apply Kd.Q_drew)); exact HO_229001.out) hb)
                            have n1_ := Aside0.mk (Kd.R_elder' (by (with_reducible repeat (first | apply Kd.R_alloc | apply Kd.R_drewN | apply Kd.R_drew)); exact HO_230001.out) (Kd.R_base ho0) hb)
                            have n2_ := Aside0.mk (Kd.R_lower (Kd.R_new' ho0 (Kd.R_lt (by (with_reducible repeat (first | apply Kd.R_alloc | apply Kd.R_drewN | apply Kd.R_drew)); exact HO_230001.out))) (below_size (by repeat (first | (with_reducible first | exact HB.out | apply below_alloc | apply pw_below_drewN | apply below_drew1 | refine below_set ?_ GE228.out | refine below_set ?_ GE229.out | refine below_set ?_ GE231.out) | exact HB.out))))
                            have n3_ := Aside0.mk (blk_below (g := gb228) (o := .cells #[.int .i64 x229000_11, .slice Ao150 x229001_11.length co150] 28 (0, 0)) (by (with_reducible repeat (first | refine blk_drewN ?_ _ | refine blk_drew ?_ | refine blk_alloc ?_ _)); exact BK228.out) hb)
                            have n4_ := Aside0.mk (blk_below (g := gb229) (o := .cells #[.int .i64 x230000_11, u230001] 24 (0, 0)) (by (with_reducible repeat (first | refine blk_drewN ?_ _ | refine blk_drew ?_ | refine blk_alloc ?_ _)); exact BK229.out) hb)
                            have n5_ := Aside0.mk (blk_below (g := gb231) (o := .cells #[.int .u8 ((rd_T54 l0 x5_1).f0), .int .i64 ((rd_T54 l0 x5_1).f1), .int .i64 ((rd_T54 l0 x5_1).f2)] 54 (0, 0)) (by (with_reducible repeat (first | refine blk_drewN ?_ _ | refine blk_drew ?_ | refine blk_alloc ?_ _)); exact BK231.out) hb)
                            have n6_ := Aside0.mk (below_step (by repeat (first | (with_reducible first | exact HB.out | apply below_alloc | apply pw_below_drewN | apply below_drew1 | refine below_set ?_ GE228.out | refine below_set ?_ GE229.out | refine below_set ?_ GE231.out) | exact HB.out)) hb)
                            clear HO_229001
                            clear HO_230001
                            clear BK228
                            clear BK229
                            clear BK231
                            clear HB
                            have HO_229001 := n0_
                            have HO_230001 := n1_
                            have HO278 := n2_
                            have BK228 := n3_
                            have BK229 := n4_
                            have BK231 := n5_
                            have HB := n6_
                            clear n0_ n1_ n2_ n3_ n4_ n5_ n6_
                            (try clear hb)
                            (try clear hb2)
                            (try clear hk)
                            (try clear hi)
                            (try clear ho0)
                            obtain ⟨Ao152, co152, eo152⟩ := Kd.R_slice HO278.out
                            (first | subst eo152 | (injection eo152 with f1_ f2_ f3_; have f4_ := f1_.symm; have f5_ := f3_.symm; clear f1_ f2_ f3_; subst f4_; subst f5_))
                            obtain ⟨Ao153, co153, eo153⟩ := Kd.R_slice HO_230001.out
                            (first | subst eo153 | (injection eo153 with f1_ f2_ f3_; have f4_ := f1_.symm; have f5_ := f3_.symm; clear f1_ f2_ f3_; subst f4_; subst f5_))
                            refine hK.out _ _ ⟨(blk_cell BK228.out 0).trans rfl, (blk_cell BK228.out 1).trans rfl, (blk_cell BK229.out 0).trans rfl, (blk_cell BK229.out 1).trans rfl⟩ (fun hHeld => ?_)
                            clear hK K
                            refine norm_ (a' := ?_) ?_ ?_
                            rotate_left
                            · show Act.put _ (some 118) _ = _
                              simp only [Act.put, List.setIfInBounds_toArray, List.set_cons_zero, List.set_cons_succ, i64_w, i32_w]
                              rfl
                            refine one_ (i := 6) (N := some 120) #[true, true, true, true, true, true, true, false, false, false, false, false, false, false] rfl rfl (one_of HT_.out (by kernel_rfl)) (by decide) (fun K hK => ?_)
                            refine goes_ Try.func21 (by kernel_rfl) rfl #[.agg #[.int .i64 t275, .slice Ao152 t276.length co152], .agg #[.int .i64 x230000_11, .slice Ao153 x230001_11.length co153]] (by rfl) rfl rfl (by (try simp only [List.map_toArray, List.map_cons, List.map_nil]); first | done | rfl | (simp only [List.length_drop, List.length_take]; rfl)) ?_
                            with_reducible refine (waystationref06_Same.calls kj11 t275 _ _ t276 x230000_11 _ _ x230001_11 true _ ?side1 ?side2 ?side3 ?side4 A145.out).mono ?_
                            (case side1 => repeat (first | exact (Kd.R_reads' HO278.out).2.2 | (with_reducible refine Kd.C_alloc ?_ _) | (with_reducible refine Kd.C_drewN ?_ _) | (with_reducible refine Kd.C_drew ?_)))
                            (case side2 => exact (Kd.R_reads' HO278.out).2.1)
                            (case side3 => repeat (first | exact (Kd.R_reads' HO_230001.out).2.2 | (with_reducible refine Kd.C_alloc ?_ _) | (with_reducible refine Kd.C_drewN ?_ _) | (with_reducible refine Kd.C_drew ?_)))
                            (case side4 => exact (Kd.R_reads' HO_230001.out).2.1)
                            rintro e w154 ⟨rfl, hb⟩
                            refine ⟨_, rfl, ?_⟩
                            have n0_ := Aside0.mk (Kd.Q_below (by (with_reducible repeat (first | apply Kd.Q_alloc | apply Kd.Q_drewN | apply Kd.Q_drew)); exact HO_229001.out) hb)
                            have n1_ := Aside0.mk (Kd.R_below (by (with_reducible repeat (first | apply Kd.R_alloc | apply Kd.R_drewN | apply Kd.R_drew)); exact HO_230001.out) hb)
                            have n2_ := Aside0.mk (Kd.R_below (by (with_reducible repeat (first | apply Kd.R_alloc | apply Kd.R_drewN | apply Kd.R_drew)); exact HO278.out) hb)
                            have n3_ := Aside0.mk (blk_below (g := gb228) (o := .cells #[.int .i64 x229000_11, .slice Ao150 x229001_11.length co150] 28 (0, 0)) (by (with_reducible repeat (first | refine blk_drewN ?_ _ | refine blk_drew ?_ | refine blk_alloc ?_ _)); exact BK228.out) hb)
                            have n4_ := Aside0.mk (blk_below (g := gb229) (o := .cells #[.int .i64 x230000_11, .slice Ao153 x230001_11.length co153] 24 (0, 0)) (by (with_reducible repeat (first | refine blk_drewN ?_ _ | refine blk_drew ?_ | refine blk_alloc ?_ _)); exact BK229.out) hb)
                            have n5_ := Aside0.mk (blk_below (g := gb231) (o := .cells #[.int .u8 ((rd_T54 l0 x5_1).f0), .int .i64 ((rd_T54 l0 x5_1).f1), .int .i64 ((rd_T54 l0 x5_1).f2)] 54 (0, 0)) (by (with_reducible repeat (first | refine blk_drewN ?_ _ | refine blk_drew ?_ | refine blk_alloc ?_ _)); exact BK231.out) hb)
                            have n6_ := Aside0.mk (below_step (by repeat (first | (with_reducible first | exact HB.out | apply below_alloc | apply pw_below_drewN | apply below_drew1 | refine below_set ?_ GE228.out | refine below_set ?_ GE229.out | refine below_set ?_ GE231.out) | exact HB.out)) hb)
                            clear HO_229001
                            clear HO_230001
                            clear HO278
                            clear BK228
                            clear BK229
                            clear BK231
                            clear HB
                            have HO_229001 := n0_
                            have HO_230001 := n1_
                            have HO278 := n2_
                            have BK228 := n3_
                            have BK229 := n4_
                            have BK231 := n5_
                            have HB := n6_
                            clear n0_ n1_ n2_ n3_ n4_ n5_ n6_
                            (try clear hb)
                            (try clear hb2)
                            (try clear hk)
                            (try clear hi)
                            refine hK.out _ _ ⟨(blk_cell BK228.out 0).trans rfl, (blk_cell BK228.out 1).trans rfl, (blk_cell BK229.out 0).trans rfl, (blk_cell BK229.out 1).trans rfl⟩ (fun hHeld => ?_)
                            clear hK K
                            refine norm_ (a' := ?_) ?_ ?_
                            rotate_left
                            · show Act.put _ (some 120) _ = _
                              simp only [Act.put, List.setIfInBounds_toArray, List.set_cons_zero, List.set_cons_succ, i64_w, i32_w]
                              rfl
                            refine pure_ (i := 7) (N := some 121) (v := ?_) (a' := ?_) #[true, true, true, true, true, true, true, true, false, false, false, false, false, false] rfl rfl (any_of HT_.out (by kernel_rfl)) (fun _ _ _ h => h) (Or.inl ⟨by rfl, ?_⟩) ?_ ?_
                            rotate_left
                            · intro w'
                              go_simp
                              with_reducible rfl
                            rotate_left
                            · simp only [Act.put, List.setIfInBounds_toArray, List.set_cons_zero, List.set_cons_succ, i64_w, i32_w]
                              rfl
                            refine pure_ (i := 8) (N := some 122) (v := ?_) (a' := ?_) #[true, true, true, true, true, true, true, true, true, false, false, false, false, false] rfl rfl (any_of HT_.out (by kernel_rfl)) (fun _ _ _ h => h) (Or.inl ⟨by rfl, ?_⟩) ?_ ?_
                            rotate_left
                            · intro w'
                              go_simp
                              with_reducible rfl
                            rotate_left
                            · simp only [Act.put, List.setIfInBounds_toArray, List.set_cons_zero, List.set_cons_succ, i64_w, i32_w]
                              rfl
                            refine pure_ (i := 9) (N := some 123) (v := ?_) (a' := ?_) #[true, true, true, true, true, true, true, true, true, true, false, false, false, false] rfl rfl (any_of HT_.out (by kernel_rfl)) (fun _ _ _ h => h) (Or.inl ⟨by rfl, ?_⟩) ?_ ?_
                            rotate_left
                            · intro w'
                              go_simp
                              with_reducible rfl
                            rotate_left
                            · simp only [Act.put, List.setIfInBounds_toArray, List.set_cons_zero, List.set_cons_succ, i64_w, i32_w]
                              rfl
                            refine take_ (i := 10) (N := some 124) (v := ?_) (a' := ?_) #[true, true, true, true, true, true, true, true, true, true, true, false, false, false] rfl rfl (take_ofW HT_.out HW_.out (by kernel_rfl)) (fun _ _ _ h => h) (Or.inl ⟨by rfl, ?_⟩) hHeld ?_ ?_
                            rotate_left
                            · rintro w' ⟨s0, s1, s2, s3⟩
                              go_simp
                              with_reducible rfl
                            rotate_left
                            · simp only [Act.put, List.setIfInBounds_toArray, List.set_cons_zero, List.set_cons_succ, i64_w, i32_w]
                              rfl
                            refine one_ (i := 11) (N := some 125) #[true, true, true, true, true, true, true, true, true, true, true, true, false, false] rfl rfl (one_of HT_.out (by kernel_rfl)) (by decide) (fun K hK => ?_)
                            refine goes_ Try.func20 (by kernel_rfl) rfl #[.agg #[.int .i64 x229000_11, .slice Ao150 x229001_11.length co150]] (by rfl) rfl rfl (by (try simp only [List.map_toArray, List.map_cons, List.map_nil]); first | done | rfl | (simp only [List.length_drop, List.length_take]; rfl)) ?_
                            with_reducible refine (wheel_Right.calls x229000_11 _ _ x229001_11 true _ ?side1 ?side2 A147.out).mono ?_
                            (case side1 => repeat (first | exact (Kd.Q_reads' HO_229001.out).2.2 | (with_reducible refine Kd.C_alloc ?_ _) | (with_reducible refine Kd.C_drewN ?_ _) | (with_reducible refine Kd.C_drew ?_)))
                            (case side2 => exact (Kd.Q_reads' HO_229001.out).2.1)
                            rintro e w155 ⟨rfl, hb⟩
                            refine ⟨_, rfl, ?_⟩
                            have n0_ := Aside0.mk (Kd.Q_below (by (with_reducible repeat (first | apply Kd.Q_alloc | apply Kd.Q_drewN | apply Kd.Q_drew)); exact HO_229001.out) hb)
                            have n1_ := Aside0.mk (Kd.R_below (by (with_reducible repeat (first | apply Kd.R_alloc | apply Kd.R_drewN | apply Kd.R_drew)); exact HO_230001.out) hb)
                            have n2_ := Aside0.mk (Kd.R_below (by (with_reducible repeat (first | apply Kd.R_alloc | apply Kd.R_drewN | apply Kd.R_drew)); exact HO278.out) hb)
                            have n3_ := Aside0.mk (blk_below (g := gb228) (o := .cells #[.int .i64 x229000_11, .slice Ao150 x229001_11.length co150] 28 (0, 0)) (by (with_reducible repeat (first | refine blk_drewN ?_ _ | refine blk_drew ?_ | refine blk_alloc ?_ _)); exact BK228.out) hb)
                            have n4_ := Aside0.mk (blk_below (g := gb229) (o := .cells #[.int .i64 x230000_11, .slice Ao153 x230001_11.length co153] 24 (0, 0)) (by (with_reducible repeat (first | refine blk_drewN ?_ _ | refine blk_drew ?_ | refine blk_alloc ?_ _)); exact BK229.out) hb)
                            have n5_ := Aside0.mk (blk_below (g := gb231) (o := .cells #[.int .u8 ((rd_T54 l0 x5_1).f0), .int .i64 ((rd_T54 l0 x5_1).f1), .int .i64 ((rd_T54 l0 x5_1).f2)] 54 (0, 0)) (by (with_reducible repeat (first | refine blk_drewN ?_ _ | refine blk_drew ?_ | refine blk_alloc ?_ _)); exact BK231.out) hb)
                            have n6_ := Aside0.mk (below_step (by repeat (first | (with_reducible first | exact HB.out | apply below_alloc | apply pw_below_drewN | apply below_drew1 | refine below_set ?_ GE228.out | refine below_set ?_ GE229.out | refine below_set ?_ GE231.out) | exact HB.out)) hb)
                            clear HO_229001
                            clear HO_230001
                            clear HO278
                            clear BK228
                            clear BK229
                            clear BK231
                            clear HB
                            have HO_229001 := n0_
                            have HO_230001 := n1_
                            have HO278 := n2_
                            have BK228 := n3_
                            have BK229 := n4_
                            have BK231 := n5_
                            have HB := n6_
                            clear n0_ n1_ n2_ n3_ n4_ n5_ n6_
                            (try clear hb)
                            (try clear hb2)
                            (try clear hk)
                            (try clear hi)
                            refine hK.out _ _ ⟨(blk_cell BK228.out 0).trans rfl, (blk_cell BK228.out 1).trans rfl, (blk_cell BK229.out 0).trans rfl, (blk_cell BK229.out 1).trans rfl⟩ (fun hHeld => ?_)
                            clear hK K
                            refine norm_ (a' := ?_) ?_ ?_
                            rotate_left
                            · show Act.put _ (some 125) _ = _
                              simp only [Act.put, List.setIfInBounds_toArray, List.set_cons_zero, List.set_cons_succ, i64_w, i32_w]
                              rfl
                            refine pure_ (i := 12) (N := some 126) (v := ?_) (a' := ?_) #[true, true, true, true, true, true, true, true, true, true, true, true, true, false] rfl rfl (any_of HT_.out (by kernel_rfl)) (fun _ _ _ h => h) (Or.inl ⟨by rfl, ?_⟩) ?_ ?_
                            rotate_left
                            · intro w'
                              go_simp
                              with_reducible rfl
                            rotate_left
                            · simp only [Act.put, List.setIfInBounds_toArray, List.set_cons_zero, List.set_cons_succ, i64_w, i32_w]
                              rfl
                            refine pure_ (i := 13) (N := some 127) (v := ?_) (a' := ?_) #[true, true, true, true, true, true, true, true, true, true, true, true, true, true] rfl rfl (any_of HT_.out (by kernel_rfl)) (fun _ _ _ h => h) (Or.inl ⟨by rfl, ?_⟩) ?_ ?_
                            rotate_left
                            · intro w'
                              go_simp
                              with_reducible rfl
                            rotate_left
                            · simp only [Act.put, List.setIfInBounds_toArray, List.set_cons_zero, List.set_cons_succ, i64_w, i32_w]
                              rfl
                            refine done_ (done_of HT_.out (by kernel_rfl)) ?_
                            try go_wp2
                            go_roundg kj11
                            case measure => have := HK1.out; have := HJ6.out; have := HJ11.out; omega
                            case rel => exact ⟨(wrap64 (x5_1 + 1)), (x229000_11), (x229001_11), (x230000_11), (x230001_11), (.slice Ao150 x229001_11.length co150), (.slice Ao153 x230001_11.length co153), (by first | rfl | (simp; done) | (simp [*]; done)), H', ⟨by have := HK1.out; have := HJ6.out; have := HJ11.out; omega⟩, ⟨by (with_reducible repeat (first | apply Kd.Q_alloc | apply Kd.Q_drewN | apply Kd.Q_drew)); exact HO_229001.out⟩, ⟨by (with_reducible repeat (first | apply Kd.R_alloc | apply Kd.R_drewN | apply Kd.R_drew)); exact Kd.R_mono HO_230001.out (fun _ hk => trivial)⟩, ⟨by (with_reducible repeat (first | refine blk_drewN ?_ _ | refine blk_drew ?_ | refine blk_alloc ?_ _)); exact BK228.out⟩, ⟨by (with_reducible repeat (first | refine blk_drewN ?_ _ | refine blk_drew ?_ | refine blk_alloc ?_ _)); exact BK229.out⟩, ⟨by repeat (first | (with_reducible first | exact HB.out | apply below_alloc | apply pw_below_drewN | apply below_drew1 | refine below_set ?_ GE228.out | refine below_set ?_ GE229.out | refine below_set ?_ GE231.out) | exact HB.out)⟩⟩
                          · replace c148 := Bool.eq_false_iff.mpr c148
                            subst c148
                            have H1 : (some false) = some r := by rw [if_neg (show ¬ (false = true) by decide)] at H; exact H
                            clear H
                            have H := H1
                            clear H1
                            obtain rfl := Option.some.inj H
                            try go_wp2
                            have n0_ := Aside0.mk (Kd.Q_drew HO_229001.out)
                            have n1_ := Aside0.mk (Kd.R_drew HO_230001.out)
                            have n2_ := Aside0.mk (blk_drew BK228.out)
                            have n3_ := Aside0.mk (blk_drew BK229.out)
                            have n4_ := Aside0.mk (blk_drew BK231.out)
                            have n5_ := Aside0.mk (below_drew1 HB.out)
                            clear HO_229001
                            clear HO_230001
                            clear BK228
                            clear BK229
                            clear BK231
                            clear HB
                            have HO_229001 := n0_
                            have HO_230001 := n1_
                            have BK228 := n2_
                            have BK229 := n3_
                            have BK231 := n4_
                            have HB := n5_
                            clear n0_ n1_ n2_ n3_ n4_ n5_
                            obtain ⟨Ao157, co157, eo157, _⟩ := Kd.Q_slice HO_229001.out
                            (first | subst eo157 | (injection eo157 with f1_ f2_ f3_; have f4_ := f1_.symm; have f5_ := f3_.symm; clear f1_ f2_ f3_; subst f4_; subst f5_))
                            refine start_ (n := 14) (S := fun w' => w'.cell? ⟨gb228, 0, none⟩ = some (.int .i64 x229000_11) ∧ w'.cell? ⟨gb228, 1, none⟩ = some (.slice Ao157 x229001_11.length co157) ∧ w'.cell? ⟨gb229, 0, none⟩ = some (.int .i64 x230000_11) ∧ w'.cell? ⟨gb229, 1, none⟩ = some (u230001)) (ds := []) #[false, false, false, false, false, false, false, false, false, false, false, false, false, false] (by kernel_rfl) rfl rfl ⟨(blk_cell BK228.out 0).trans rfl, (blk_cell BK228.out 1).trans rfl, (blk_cell BK229.out 0).trans rfl, (blk_cell BK229.out 1).trans rfl⟩ (fun hHeld => ?_); refine with_tabW waystationlaw06_WheelRow.tab29 waystationlaw06_WheelRow.bits29 (fun HT_ HW_ => ?_)
                            generalize wc.drew = w156 at HO_229001 HO_230001 BK228 BK229 BK231 HB hHeld ⊢
                            refine pure_ (i := 0) (N := some 114) (v := ?_) (a' := ?_) #[true, false, false, false, false, false, false, false, false, false, false, false, false, false] rfl rfl (any_of HT_.out (by kernel_rfl)) (fun _ _ _ h => h) (Or.inl ⟨by rfl, ?_⟩) ?_ ?_
                            rotate_left
                            · intro w'
                              go_simp
                              with_reducible rfl
                            rotate_left
                            · simp only [Act.put, List.setIfInBounds_toArray, List.set_cons_zero, List.set_cons_succ, i64_w, i32_w]
                              rfl
                            refine pure_ (i := 1) (N := some 115) (v := ?_) (a' := ?_) #[true, true, false, false, false, false, false, false, false, false, false, false, false, false] rfl rfl (any_of HT_.out (by kernel_rfl)) (fun _ _ _ h => h) (Or.inl ⟨by rfl, ?_⟩) ?_ ?_
                            rotate_left
                            · intro w'
                              go_simp
                              with_reducible rfl
                            rotate_left
                            · simp only [Act.put, List.setIfInBounds_toArray, List.set_cons_zero, List.set_cons_succ, i64_w, i32_w]
                              rfl
                            refine pure_ (i := 2) (N := some 116) (v := ?_) (a' := ?_) #[true, true, true, false, false, false, false, false, false, false, false, false, false, false] rfl rfl (any_of HT_.out (by kernel_rfl)) (fun _ _ _ h => h) (Or.inl ⟨by rfl, ?_⟩) ?_ ?_
                            rotate_left
                            · intro w'
                              go_simp
                              with_reducible rfl
                            rotate_left
                            · simp only [Act.put, List.setIfInBounds_toArray, List.set_cons_zero, List.set_cons_succ, i64_w, i32_w]
                              rfl
                            refine take_ (i := 3) (N := some 117) (v := ?_) (a' := ?_) #[true, true, true, true, false, false, false, false, false, false, false, false, false, false] rfl rfl (take_ofW HT_.out HW_.out (by kernel_rfl)) (fun _ _ _ h => h) (Or.inl ⟨by rfl, ?_⟩) hHeld ?_ ?_
                            rotate_left
                            · rintro w' ⟨s0, s1, s2, s3⟩
                              go_simp
                              with_reducible rfl
                            rotate_left
                            · simp only [Act.put, List.setIfInBounds_toArray, List.set_cons_zero, List.set_cons_succ, i64_w, i32_w]
                              rfl
                            refine take_ (i := 5) (N := some 119) (v := ?_) (a' := ?_) #[true, true, true, true, false, true, false, false, false, false, false, false, false, false] rfl rfl (take_ofW HT_.out HW_.out (by kernel_rfl)) (fun _ _ _ h => h) (Or.inl ⟨by rfl, ?_⟩) hHeld ?_ ?_
                            rotate_left
                            · rintro w' ⟨s0, s1, s2, s3⟩
                              go_simp
                              with_reducible rfl
                            rotate_left
                            · simp only [Act.put, List.setIfInBounds_toArray, List.set_cons_zero, List.set_cons_succ, i64_w, i32_w]
                              rfl
                            refine one_ (i := 4) (N := some 118) #[true, true, true, true, true, true, false, false, false, false, false, false, false, false] rfl rfl (one_of HT_.out (by kernel_rfl)) (by decide) (fun K hK => ?_)
                            refine goes_ Try.func22 (by kernel_rfl) rfl #[.agg #[.int .i64 x229000_11, .slice Ao157 x229001_11.length co157]] (by rfl) rfl rfl (by (try simp only [List.map_toArray, List.map_cons, List.map_nil]); first | done | rfl | (simp only [List.length_drop, List.length_take]; rfl)) ?_
                            with_reducible refine (waystationlaw06_Ours.calls kj11 x229000_11 _ _ x229001_11 t275 t276 _ ?side1 ?side2 A144.out).mono ?_
                            (case side1 => repeat (first | exact (Kd.Q_reads' HO_229001.out).2.2 | (with_reducible refine Kd.C_alloc ?_ _) | (with_reducible refine Kd.C_drewN ?_ _) | (with_reducible refine Kd.C_drew ?_)))
                            (case side2 => exact (Kd.Q_reads' HO_229001.out).2.1)
                            rintro e w158 ⟨v277, rfl, ho0, hb⟩
                            refine ⟨_, rfl, ?_⟩
                            have n0_ := Aside0.mk (Kd.Q_below (by (with_reducible repeat (first | apply Kd.Q_alloc | apply Kd.Q_drewN | apply Kd.Q_drew)); exact HO_229001.out) hb)
                            have n1_ := Aside0.mk (Kd.R_elder' (by (with_reducible repeat (first | apply Kd.R_alloc | apply Kd.R_drewN | apply Kd.R_drew)); exact HO_230001.out) (Kd.R_base ho0) hb)
                            have n2_ := Aside0.mk (Kd.R_lower (Kd.R_new' ho0 (Kd.R_lt (by (with_reducible repeat (first | apply Kd.R_alloc | apply Kd.R_drewN | apply Kd.R_drew)); exact HO_230001.out))) (below_size (by repeat (first | (with_reducible first | exact HB.out | apply below_alloc | apply pw_below_drewN | apply below_drew1 | refine below_set ?_ GE228.out | refine below_set ?_ GE229.out | refine below_set ?_ GE231.out) | exact HB.out))))
                            have n3_ := Aside0.mk (blk_below (g := gb228) (o := .cells #[.int .i64 x229000_11, .slice Ao157 x229001_11.length co157] 28 (0, 0)) (by (with_reducible repeat (first | refine blk_drewN ?_ _ | refine blk_drew ?_ | refine blk_alloc ?_ _)); exact BK228.out) hb)
                            have n4_ := Aside0.mk (blk_below (g := gb229) (o := .cells #[.int .i64 x230000_11, u230001] 24 (0, 0)) (by (with_reducible repeat (first | refine blk_drewN ?_ _ | refine blk_drew ?_ | refine blk_alloc ?_ _)); exact BK229.out) hb)
                            have n5_ := Aside0.mk (blk_below (g := gb231) (o := .cells #[.int .u8 ((rd_T54 l0 x5_1).f0), .int .i64 ((rd_T54 l0 x5_1).f1), .int .i64 ((rd_T54 l0 x5_1).f2)] 54 (0, 0)) (by (with_reducible repeat (first | refine blk_drewN ?_ _ | refine blk_drew ?_ | refine blk_alloc ?_ _)); exact BK231.out) hb)
                            have n6_ := Aside0.mk (below_step (by repeat (first | (with_reducible first | exact HB.out | apply below_alloc | apply pw_below_drewN | apply below_drew1 | refine below_set ?_ GE228.out | refine below_set ?_ GE229.out | refine below_set ?_ GE231.out) | exact HB.out)) hb)
                            clear HO_229001
                            clear HO_230001
                            clear BK228
                            clear BK229
                            clear BK231
                            clear HB
                            have HO_229001 := n0_
                            have HO_230001 := n1_
                            have HO278 := n2_
                            have BK228 := n3_
                            have BK229 := n4_
                            have BK231 := n5_
                            have HB := n6_
                            clear n0_ n1_ n2_ n3_ n4_ n5_ n6_
                            (try clear hb)
                            (try clear hb2)
                            (try clear hk)
                            (try clear hi)
                            (try clear ho0)
                            obtain ⟨Ao159, co159, eo159⟩ := Kd.R_slice HO278.out
                            (first | subst eo159 | (injection eo159 with f1_ f2_ f3_; have f4_ := f1_.symm; have f5_ := f3_.symm; clear f1_ f2_ f3_; subst f4_; subst f5_))
                            obtain ⟨Ao160, co160, eo160⟩ := Kd.R_slice HO_230001.out
                            (first | subst eo160 | (injection eo160 with f1_ f2_ f3_; have f4_ := f1_.symm; have f5_ := f3_.symm; clear f1_ f2_ f3_; subst f4_; subst f5_))
                            refine hK.out _ _ ⟨(blk_cell BK228.out 0).trans rfl, (blk_cell BK228.out 1).trans rfl, (blk_cell BK229.out 0).trans rfl, (blk_cell BK229.out 1).trans rfl⟩ (fun hHeld => ?_)
                            clear hK K
                            refine norm_ (a' := ?_) ?_ ?_
                            rotate_left
                            · show Act.put _ (some 118) _ = _
                              simp only [Act.put, List.setIfInBounds_toArray, List.set_cons_zero, List.set_cons_succ, i64_w, i32_w]
                              rfl
                            refine one_ (i := 6) (N := some 120) #[true, true, true, true, true, true, true, false, false, false, false, false, false, false] rfl rfl (one_of HT_.out (by kernel_rfl)) (by decide) (fun K hK => ?_)
                            refine goes_ Try.func21 (by kernel_rfl) rfl #[.agg #[.int .i64 t275, .slice Ao159 t276.length co159], .agg #[.int .i64 x230000_11, .slice Ao160 x230001_11.length co160]] (by rfl) rfl rfl (by (try simp only [List.map_toArray, List.map_cons, List.map_nil]); first | done | rfl | (simp only [List.length_drop, List.length_take]; rfl)) ?_
                            with_reducible refine (waystationref06_Same.calls kj11 t275 _ _ t276 x230000_11 _ _ x230001_11 true _ ?side1 ?side2 ?side3 ?side4 A145.out).mono ?_
                            (case side1 => repeat (first | exact (Kd.R_reads' HO278.out).2.2 | (with_reducible refine Kd.C_alloc ?_ _) | (with_reducible refine Kd.C_drewN ?_ _) | (with_reducible refine Kd.C_drew ?_)))
                            (case side2 => exact (Kd.R_reads' HO278.out).2.1)
                            (case side3 => repeat (first | exact (Kd.R_reads' HO_230001.out).2.2 | (with_reducible refine Kd.C_alloc ?_ _) | (with_reducible refine Kd.C_drewN ?_ _) | (with_reducible refine Kd.C_drew ?_)))
                            (case side4 => exact (Kd.R_reads' HO_230001.out).2.1)
                            rintro e w161 ⟨rfl, hb⟩
                            refine ⟨_, rfl, ?_⟩
                            have n0_ := Aside0.mk (Kd.Q_below (by (with_reducible repeat (first | apply Kd.Q_alloc | apply Kd.Q_drewN | apply Kd.Q_drew)); exact HO_229001.out) hb)
                            have n1_ := Aside0.mk (Kd.R_below (by (with_reducible repeat (first | apply Kd.R_alloc | apply Kd.R_drewN | apply Kd.R_drew)); exact HO_230001.out) hb)
                            have n2_ := Aside0.mk (Kd.R_below (by (with_reducible repeat (first | apply Kd.R_alloc | apply Kd.R_drewN | apply Kd.R_drew)); exact HO278.out) hb)
                            have n3_ := Aside0.mk (blk_below (g := gb228) (o := .cells #[.int .i64 x229000_11, .slice Ao157 x229001_11.length co157] 28 (0, 0)) (by (with_reducible repeat (first | refine blk_drewN ?_ _ | refine blk_drew ?_ | refine blk_alloc ?_ _)); exact BK228.out) hb)
                            have n4_ := Aside0.mk (blk_below (g := gb229) (o := .cells #[.int .i64 x230000_11, .slice Ao160 x230001_11.length co160] 24 (0, 0)) (by (with_reducible repeat (first | refine blk_drewN ?_ _ | refine blk_drew ?_ | refine blk_alloc ?_ _)); exact BK229.out) hb)
                            have n5_ := Aside0.mk (blk_below (g := gb231) (o := .cells #[.int .u8 ((rd_T54 l0 x5_1).f0), .int .i64 ((rd_T54 l0 x5_1).f1), .int .i64 ((rd_T54 l0 x5_1).f2)] 54 (0, 0)) (by (with_reducible repeat (first | refine blk_drewN ?_ _ | refine blk_drew ?_ | refine blk_alloc ?_ _)); exact BK231.out) hb)
                            have n6_ := Aside0.mk (below_step (by repeat (first | (with_reducible first | exact HB.out | apply below_alloc | apply pw_below_drewN | apply below_drew1 | refine below_set ?_ GE228.out | refine below_set ?_ GE229.out | refine below_set ?_ GE231.out) | exact HB.out)) hb)
                            clear HO_229001
                            clear HO_230001
                            clear HO278
                            clear BK228
                            clear BK229
                            clear BK231
                            clear HB
                            have HO_229001 := n0_
                            have HO_230001 := n1_
                            have HO278 := n2_
                            have BK228 := n3_
                            have BK229 := n4_
                            have BK231 := n5_
                            have HB := n6_
                            clear n0_ n1_ n2_ n3_ n4_ n5_ n6_
                            (try clear hb)
                            (try clear hb2)
                            (try clear hk)
                            (try clear hi)
                            refine hK.out _ _ ⟨(blk_cell BK228.out 0).trans rfl, (blk_cell BK228.out 1).trans rfl, (blk_cell BK229.out 0).trans rfl, (blk_cell BK229.out 1).trans rfl⟩ (fun hHeld => ?_)
                            clear hK K
                            refine norm_ (a' := ?_) ?_ ?_
                            rotate_left
                            · show Act.put _ (some 120) _ = _
                              simp only [Act.put, List.setIfInBounds_toArray, List.set_cons_zero, List.set_cons_succ, i64_w, i32_w]
                              rfl
                            refine pure_ (i := 7) (N := some 121) (v := ?_) (a' := ?_) #[true, true, true, true, true, true, true, true, false, false, false, false, false, false] rfl rfl (any_of HT_.out (by kernel_rfl)) (fun _ _ _ h => h) (Or.inl ⟨by rfl, ?_⟩) ?_ ?_
                            rotate_left
                            · intro w'
                              go_simp
                              with_reducible rfl
                            rotate_left
                            · simp only [Act.put, List.setIfInBounds_toArray, List.set_cons_zero, List.set_cons_succ, i64_w, i32_w]
                              rfl
                            refine pure_ (i := 8) (N := some 122) (v := ?_) (a' := ?_) #[true, true, true, true, true, true, true, true, true, false, false, false, false, false] rfl rfl (any_of HT_.out (by kernel_rfl)) (fun _ _ _ h => h) (Or.inl ⟨by rfl, ?_⟩) ?_ ?_
                            rotate_left
                            · intro w'
                              go_simp
                              with_reducible rfl
                            rotate_left
                            · simp only [Act.put, List.setIfInBounds_toArray, List.set_cons_zero, List.set_cons_succ, i64_w, i32_w]
                              rfl
                            refine pure_ (i := 9) (N := some 123) (v := ?_) (a' := ?_) #[true, true, true, true, true, true, true, true, true, true, false, false, false, false] rfl rfl (any_of HT_.out (by kernel_rfl)) (fun _ _ _ h => h) (Or.inl ⟨by rfl, ?_⟩) ?_ ?_
                            rotate_left
                            · intro w'
                              go_simp
                              with_reducible rfl
                            rotate_left
                            · simp only [Act.put, List.setIfInBounds_toArray, List.set_cons_zero, List.set_cons_succ, i64_w, i32_w]
                              rfl
                            refine take_ (i := 10) (N := some 124) (v := ?_) (a' := ?_) #[true, true, true, true, true, true, true, true, true, true, true, false, false, false] rfl rfl (take_ofW HT_.out HW_.out (by kernel_rfl)) (fun _ _ _ h => h) (Or.inl ⟨by rfl, ?_⟩) hHeld ?_ ?_
                            rotate_left
                            · rintro w' ⟨s0, s1, s2, s3⟩
                              go_simp
                              with_reducible rfl
                            rotate_left
                            · simp only [Act.put, List.setIfInBounds_toArray, List.set_cons_zero, List.set_cons_succ, i64_w, i32_w]
                              rfl
                            refine one_ (i := 11) (N := some 125) #[true, true, true, true, true, true, true, true, true, true, true, true, false, false] rfl rfl (one_of HT_.out (by kernel_rfl)) (by decide) (fun K hK => ?_)
                            refine goes_ Try.func20 (by kernel_rfl) rfl #[.agg #[.int .i64 x229000_11, .slice Ao157 x229001_11.length co157]] (by rfl) rfl rfl (by (try simp only [List.map_toArray, List.map_cons, List.map_nil]); first | done | rfl | (simp only [List.length_drop, List.length_take]; rfl)) ?_
                            with_reducible refine (wheel_Right.calls x229000_11 _ _ x229001_11 false _ ?side1 ?side2 A147.out).mono ?_
                            (case side1 => repeat (first | exact (Kd.Q_reads' HO_229001.out).2.2 | (with_reducible refine Kd.C_alloc ?_ _) | (with_reducible refine Kd.C_drewN ?_ _) | (with_reducible refine Kd.C_drew ?_)))
                            (case side2 => exact (Kd.Q_reads' HO_229001.out).2.1)
                            rintro e w162 ⟨rfl, hb⟩
                            refine ⟨_, rfl, ?_⟩
                            have n0_ := Aside0.mk (Kd.Q_below (by (with_reducible repeat (first | apply Kd.Q_alloc | apply Kd.Q_drewN | apply Kd.Q_drew)); exact HO_229001.out) hb)
                            have n1_ := Aside0.mk (Kd.R_below (by (with_reducible repeat (first | apply Kd.R_alloc | apply Kd.R_drewN | apply Kd.R_drew)); exact HO_230001.out) hb)
                            have n2_ := Aside0.mk (Kd.R_below (by (with_reducible repeat (first | apply Kd.R_alloc | apply Kd.R_drewN | apply Kd.R_drew)); exact HO278.out) hb)
                            have n3_ := Aside0.mk (blk_below (g := gb228) (o := .cells #[.int .i64 x229000_11, .slice Ao157 x229001_11.length co157] 28 (0, 0)) (by (with_reducible repeat (first | refine blk_drewN ?_ _ | refine blk_drew ?_ | refine blk_alloc ?_ _)); exact BK228.out) hb)
                            have n4_ := Aside0.mk (blk_below (g := gb229) (o := .cells #[.int .i64 x230000_11, .slice Ao160 x230001_11.length co160] 24 (0, 0)) (by (with_reducible repeat (first | refine blk_drewN ?_ _ | refine blk_drew ?_ | refine blk_alloc ?_ _)); exact BK229.out) hb)
                            have n5_ := Aside0.mk (blk_below (g := gb231) (o := .cells #[.int .u8 ((rd_T54 l0 x5_1).f0), .int .i64 ((rd_T54 l0 x5_1).f1), .int .i64 ((rd_T54 l0 x5_1).f2)] 54 (0, 0)) (by (with_reducible repeat (first | refine blk_drewN ?_ _ | refine blk_drew ?_ | refine blk_alloc ?_ _)); exact BK231.out) hb)
                            have n6_ := Aside0.mk (below_step (by repeat (first | (with_reducible first | exact HB.out | apply below_alloc | apply pw_below_drewN | apply below_drew1 | refine below_set ?_ GE228.out | refine below_set ?_ GE229.out | refine below_set ?_ GE231.out) | exact HB.out)) hb)
                            clear HO_229001
                            clear HO_230001
                            clear HO278
                            clear BK228
                            clear BK229
                            clear BK231
                            clear HB
                            have HO_229001 := n0_
                            have HO_230001 := n1_
                            have HO278 := n2_
                            have BK228 := n3_
                            have BK229 := n4_
                            have BK231 := n5_
                            have HB := n6_
                            clear n0_ n1_ n2_ n3_ n4_ n5_ n6_
                            (try clear hb)
                            (try clear hb2)
                            (try clear hk)
                            (try clear hi)
                            refine hK.out _ _ ⟨(blk_cell BK228.out 0).trans rfl, (blk_cell BK228.out 1).trans rfl, (blk_cell BK229.out 0).trans rfl, (blk_cell BK229.out 1).trans rfl⟩ (fun hHeld => ?_)
                            clear hK K
                            refine norm_ (a' := ?_) ?_ ?_
                            rotate_left
                            · show Act.put _ (some 125) _ = _
                              simp only [Act.put, List.setIfInBounds_toArray, List.set_cons_zero, List.set_cons_succ, i64_w, i32_w]
                              rfl
                            refine pure_ (i := 12) (N := some 126) (v := ?_) (a' := ?_) #[true, true, true, true, true, true, true, true, true, true, true, true, true, false] rfl rfl (any_of HT_.out (by kernel_rfl)) (fun _ _ _ h => h) (Or.inl ⟨by rfl, ?_⟩) ?_ ?_
                            rotate_left
                            · intro w'
                              go_simp
                              with_reducible rfl
                            rotate_left
                            · simp only [Act.put, List.setIfInBounds_toArray, List.set_cons_zero, List.set_cons_succ, i64_w, i32_w]
                              rfl
                            refine pure_ (i := 13) (N := some 127) (v := ?_) (a' := ?_) #[true, true, true, true, true, true, true, true, true, true, true, true, true, true] rfl rfl (any_of HT_.out (by kernel_rfl)) (fun _ _ _ h => h) (Or.inl ⟨by rfl, ?_⟩) ?_ ?_
                            rotate_left
                            · intro w'
                              go_simp
                              with_reducible rfl
                            rotate_left
                            · simp only [Act.put, List.setIfInBounds_toArray, List.set_cons_zero, List.set_cons_succ, i64_w, i32_w]
                              rfl
                            refine done_ (done_of HT_.out (by kernel_rfl)) ?_
                            try go_wp2
                            go_ret
                            exact ⟨by first | rfl | (simp [errW_none, errW_some] <;> rfl) | (simp [*, errW_none, errW_some] <;> rfl), by repeat (first | (with_reducible first | exact HB.out | apply below_alloc | apply pw_below_drewN | apply below_drew1 | refine below_set ?_ GE228.out | refine below_set ?_ GE229.out | refine below_set ?_ GE231.out) | exact HB.out)⟩
                        · replace c146 := Bool.eq_false_iff.mpr c146
                          subst c146
                          have H1 : (some false) = some r := by rw [if_neg (show ¬ (false = true) by decide)] at H; exact H
                          clear H
                          have H := H1
                          clear H1
                          obtain rfl := Option.some.inj H
                          try go_wp2
                          have n0_ := Aside0.mk (Kd.Q_drew HO_229001.out)
                          have n1_ := Aside0.mk (Kd.R_drew HO_230001.out)
                          have n2_ := Aside0.mk (blk_drew BK228.out)
                          have n3_ := Aside0.mk (blk_drew BK229.out)
                          have n4_ := Aside0.mk (blk_drew BK231.out)
                          have n5_ := Aside0.mk (below_drew1 HB.out)
                          clear HO_229001
                          clear HO_230001
                          clear BK228
                          clear BK229
                          clear BK231
                          clear HB
                          have HO_229001 := n0_
                          have HO_230001 := n1_
                          have BK228 := n2_
                          have BK229 := n3_
                          have BK231 := n4_
                          have HB := n5_
                          clear n0_ n1_ n2_ n3_ n4_ n5_
                          obtain ⟨Ao164, co164, eo164, _⟩ := Kd.Q_slice HO_229001.out
                          (first | subst eo164 | (injection eo164 with f1_ f2_ f3_; have f4_ := f1_.symm; have f5_ := f3_.symm; clear f1_ f2_ f3_; subst f4_; subst f5_))
                          refine start_ (n := 14) (S := fun w' => w'.cell? ⟨gb228, 0, none⟩ = some (.int .i64 x229000_11) ∧ w'.cell? ⟨gb228, 1, none⟩ = some (.slice Ao164 x229001_11.length co164) ∧ w'.cell? ⟨gb229, 0, none⟩ = some (.int .i64 x230000_11) ∧ w'.cell? ⟨gb229, 1, none⟩ = some (u230001)) (ds := []) #[false, false, false, false, false, false, false, false, false, false, false, false, false, false] (by kernel_rfl) rfl rfl ⟨(blk_cell BK228.out 0).trans rfl, (blk_cell BK228.out 1).trans rfl, (blk_cell BK229.out 0).trans rfl, (blk_cell BK229.out 1).trans rfl⟩ (fun hHeld => ?_); refine with_tabW waystationlaw06_WheelRow.tab29 waystationlaw06_WheelRow.bits29 (fun HT_ HW_ => ?_)
                          generalize wc.drew = w163 at HO_229001 HO_230001 BK228 BK229 BK231 HB hHeld ⊢
                          refine pure_ (i := 0) (N := some 114) (v := ?_) (a' := ?_) #[true, false, false, false, false, false, false, false, false, false, false, false, false, false] rfl rfl (any_of HT_.out (by kernel_rfl)) (fun _ _ _ h => h) (Or.inl ⟨by rfl, ?_⟩) ?_ ?_
                          rotate_left
                          · intro w'
                            go_simp
                            with_reducible rfl
                          rotate_left
                          · simp only [Act.put, List.setIfInBounds_toArray, List.set_cons_zero, List.set_cons_succ, i64_w, i32_w]
                            rfl
                          refine pure_ (i := 1) (N := some 115) (v := ?_) (a' := ?_) #[true, true, false, false, false, false, false, false, false, false, false, false, false, false] rfl rfl (any_of HT_.out (by kernel_rfl)) (fun _ _ _ h => h) (Or.inl ⟨by rfl, ?_⟩) ?_ ?_
                          rotate_left
                          · intro w'
                            go_simp
                            with_reducible rfl
                          rotate_left
                          · simp only [Act.put, List.setIfInBounds_toArray, List.set_cons_zero, List.set_cons_succ, i64_w, i32_w]
                            rfl
                          refine pure_ (i := 2) (N := some 116) (v := ?_) (a' := ?_) #[true, true, true, false, false, false, false, false, false, false, false, false, false, false] rfl rfl (any_of HT_.out (by kernel_rfl)) (fun _ _ _ h => h) (Or.inl ⟨by rfl, ?_⟩) ?_ ?_
                          rotate_left
                          · intro w'
                            go_simp
                            with_reducible rfl
                          rotate_left
                          · simp only [Act.put, List.setIfInBounds_toArray, List.set_cons_zero, List.set_cons_succ, i64_w, i32_w]
                            rfl
                          refine take_ (i := 3) (N := some 117) (v := ?_) (a' := ?_) #[true, true, true, true, false, false, false, false, false, false, false, false, false, false] rfl rfl (take_ofW HT_.out HW_.out (by kernel_rfl)) (fun _ _ _ h => h) (Or.inl ⟨by rfl, ?_⟩) hHeld ?_ ?_
                          rotate_left
                          · rintro w' ⟨s0, s1, s2, s3⟩
                            go_simp
                            with_reducible rfl
                          rotate_left
                          · simp only [Act.put, List.setIfInBounds_toArray, List.set_cons_zero, List.set_cons_succ, i64_w, i32_w]
                            rfl
                          refine take_ (i := 5) (N := some 119) (v := ?_) (a' := ?_) #[true, true, true, true, false, true, false, false, false, false, false, false, false, false] rfl rfl (take_ofW HT_.out HW_.out (by kernel_rfl)) (fun _ _ _ h => h) (Or.inl ⟨by rfl, ?_⟩) hHeld ?_ ?_
                          rotate_left
                          · rintro w' ⟨s0, s1, s2, s3⟩
                            go_simp
                            with_reducible rfl
                          rotate_left
                          · simp only [Act.put, List.setIfInBounds_toArray, List.set_cons_zero, List.set_cons_succ, i64_w, i32_w]
                            rfl
                          refine one_ (i := 4) (N := some 118) #[true, true, true, true, true, true, false, false, false, false, false, false, false, false] rfl rfl (one_of HT_.out (by kernel_rfl)) (by decide) (fun K hK => ?_)
                          refine goes_ Try.func22 (by kernel_rfl) rfl #[.agg #[.int .i64 x229000_11, .slice Ao164 x229001_11.length co164]] (by rfl) rfl rfl (by (try simp only [List.map_toArray, List.map_cons, List.map_nil]); first | done | rfl | (simp only [List.length_drop, List.length_take]; rfl)) ?_
                          with_reducible refine (waystationlaw06_Ours.calls kj11 x229000_11 _ _ x229001_11 t275 t276 _ ?side1 ?side2 A144.out).mono ?_
                          (case side1 => repeat (first | exact (Kd.Q_reads' HO_229001.out).2.2 | (with_reducible refine Kd.C_alloc ?_ _) | (with_reducible refine Kd.C_drewN ?_ _) | (with_reducible refine Kd.C_drew ?_)))
                          (case side2 => exact (Kd.Q_reads' HO_229001.out).2.1)
                          rintro e w165 ⟨v277, rfl, ho0, hb⟩
                          refine ⟨_, rfl, ?_⟩
                          have n0_ := Aside0.mk (Kd.Q_below (by (with_reducible repeat (first | apply Kd.Q_alloc | apply Kd.Q_drewN | apply Kd.Q_drew)); exact HO_229001.out) hb)
                          have n1_ := Aside0.mk (Kd.R_elder' (by (with_reducible repeat (first | apply Kd.R_alloc | apply Kd.R_drewN | apply Kd.R_drew)); exact HO_230001.out) (Kd.R_base ho0) hb)
                          have n2_ := Aside0.mk (Kd.R_lower (Kd.R_new' ho0 (Kd.R_lt (by (with_reducible repeat (first | apply Kd.R_alloc | apply Kd.R_drewN | apply Kd.R_drew)); exact HO_230001.out))) (below_size (by repeat (first | (with_reducible first | exact HB.out | apply below_alloc | apply pw_below_drewN | apply below_drew1 | refine below_set ?_ GE228.out | refine below_set ?_ GE229.out | refine below_set ?_ GE231.out) | exact HB.out))))
                          have n3_ := Aside0.mk (blk_below (g := gb228) (o := .cells #[.int .i64 x229000_11, .slice Ao164 x229001_11.length co164] 28 (0, 0)) (by (with_reducible repeat (first | refine blk_drewN ?_ _ | refine blk_drew ?_ | refine blk_alloc ?_ _)); exact BK228.out) hb)
                          have n4_ := Aside0.mk (blk_below (g := gb229) (o := .cells #[.int .i64 x230000_11, u230001] 24 (0, 0)) (by (with_reducible repeat (first | refine blk_drewN ?_ _ | refine blk_drew ?_ | refine blk_alloc ?_ _)); exact BK229.out) hb)
                          have n5_ := Aside0.mk (blk_below (g := gb231) (o := .cells #[.int .u8 ((rd_T54 l0 x5_1).f0), .int .i64 ((rd_T54 l0 x5_1).f1), .int .i64 ((rd_T54 l0 x5_1).f2)] 54 (0, 0)) (by (with_reducible repeat (first | refine blk_drewN ?_ _ | refine blk_drew ?_ | refine blk_alloc ?_ _)); exact BK231.out) hb)
                          have n6_ := Aside0.mk (below_step (by repeat (first | (with_reducible first | exact HB.out | apply below_alloc | apply pw_below_drewN | apply below_drew1 | refine below_set ?_ GE228.out | refine below_set ?_ GE229.out | refine below_set ?_ GE231.out) | exact HB.out)) hb)
                          clear HO_229001
                          clear HO_230001
                          clear BK228
                          clear BK229
                          clear BK231
                          clear HB
                          have HO_229001 := n0_
                          have HO_230001 := n1_
                          have HO278 := n2_
                          have BK228 := n3_
                          have BK229 := n4_
                          have BK231 := n5_
                          have HB := n6_
                          clear n0_ n1_ n2_ n3_ n4_ n5_ n6_
                          (try clear hb)
                          (try clear hb2)
                          (try clear hk)
                          (try clear hi)
                          (try clear ho0)
                          obtain ⟨Ao166, co166, eo166⟩ := Kd.R_slice HO278.out
                          (first | subst eo166 | (injection eo166 with f1_ f2_ f3_; have f4_ := f1_.symm; have f5_ := f3_.symm; clear f1_ f2_ f3_; subst f4_; subst f5_))
                          obtain ⟨Ao167, co167, eo167⟩ := Kd.R_slice HO_230001.out
                          (first | subst eo167 | (injection eo167 with f1_ f2_ f3_; have f4_ := f1_.symm; have f5_ := f3_.symm; clear f1_ f2_ f3_; subst f4_; subst f5_))
                          refine hK.out _ _ ⟨(blk_cell BK228.out 0).trans rfl, (blk_cell BK228.out 1).trans rfl, (blk_cell BK229.out 0).trans rfl, (blk_cell BK229.out 1).trans rfl⟩ (fun hHeld => ?_)
                          clear hK K
                          refine norm_ (a' := ?_) ?_ ?_
                          rotate_left
                          · show Act.put _ (some 118) _ = _
                            simp only [Act.put, List.setIfInBounds_toArray, List.set_cons_zero, List.set_cons_succ, i64_w, i32_w]
                            rfl
                          refine one_ (i := 6) (N := some 120) #[true, true, true, true, true, true, true, false, false, false, false, false, false, false] rfl rfl (one_of HT_.out (by kernel_rfl)) (by decide) (fun K hK => ?_)
                          refine goes_ Try.func21 (by kernel_rfl) rfl #[.agg #[.int .i64 t275, .slice Ao166 t276.length co166], .agg #[.int .i64 x230000_11, .slice Ao167 x230001_11.length co167]] (by rfl) rfl rfl (by (try simp only [List.map_toArray, List.map_cons, List.map_nil]); first | done | rfl | (simp only [List.length_drop, List.length_take]; rfl)) ?_
                          with_reducible refine (waystationref06_Same.calls kj11 t275 _ _ t276 x230000_11 _ _ x230001_11 false _ ?side1 ?side2 ?side3 ?side4 A145.out).mono ?_
                          (case side1 => repeat (first | exact (Kd.R_reads' HO278.out).2.2 | (with_reducible refine Kd.C_alloc ?_ _) | (with_reducible refine Kd.C_drewN ?_ _) | (with_reducible refine Kd.C_drew ?_)))
                          (case side2 => exact (Kd.R_reads' HO278.out).2.1)
                          (case side3 => repeat (first | exact (Kd.R_reads' HO_230001.out).2.2 | (with_reducible refine Kd.C_alloc ?_ _) | (with_reducible refine Kd.C_drewN ?_ _) | (with_reducible refine Kd.C_drew ?_)))
                          (case side4 => exact (Kd.R_reads' HO_230001.out).2.1)
                          rintro e w168 ⟨rfl, hb⟩
                          refine ⟨_, rfl, ?_⟩
                          have n0_ := Aside0.mk (Kd.Q_below (by (with_reducible repeat (first | apply Kd.Q_alloc | apply Kd.Q_drewN | apply Kd.Q_drew)); exact HO_229001.out) hb)
                          have n1_ := Aside0.mk (Kd.R_below (by (with_reducible repeat (first | apply Kd.R_alloc | apply Kd.R_drewN | apply Kd.R_drew)); exact HO_230001.out) hb)
                          have n2_ := Aside0.mk (Kd.R_below (by (with_reducible repeat (first | apply Kd.R_alloc | apply Kd.R_drewN | apply Kd.R_drew)); exact HO278.out) hb)
                          have n3_ := Aside0.mk (blk_below (g := gb228) (o := .cells #[.int .i64 x229000_11, .slice Ao164 x229001_11.length co164] 28 (0, 0)) (by (with_reducible repeat (first | refine blk_drewN ?_ _ | refine blk_drew ?_ | refine blk_alloc ?_ _)); exact BK228.out) hb)
                          have n4_ := Aside0.mk (blk_below (g := gb229) (o := .cells #[.int .i64 x230000_11, .slice Ao167 x230001_11.length co167] 24 (0, 0)) (by (with_reducible repeat (first | refine blk_drewN ?_ _ | refine blk_drew ?_ | refine blk_alloc ?_ _)); exact BK229.out) hb)
                          have n5_ := Aside0.mk (blk_below (g := gb231) (o := .cells #[.int .u8 ((rd_T54 l0 x5_1).f0), .int .i64 ((rd_T54 l0 x5_1).f1), .int .i64 ((rd_T54 l0 x5_1).f2)] 54 (0, 0)) (by (with_reducible repeat (first | refine blk_drewN ?_ _ | refine blk_drew ?_ | refine blk_alloc ?_ _)); exact BK231.out) hb)
                          have n6_ := Aside0.mk (below_step (by repeat (first | (with_reducible first | exact HB.out | apply below_alloc | apply pw_below_drewN | apply below_drew1 | refine below_set ?_ GE228.out | refine below_set ?_ GE229.out | refine below_set ?_ GE231.out) | exact HB.out)) hb)
                          clear HO_229001
                          clear HO_230001
                          clear HO278
                          clear BK228
                          clear BK229
                          clear BK231
                          clear HB
                          have HO_229001 := n0_
                          have HO_230001 := n1_
                          have HO278 := n2_
                          have BK228 := n3_
                          have BK229 := n4_
                          have BK231 := n5_
                          have HB := n6_
                          clear n0_ n1_ n2_ n3_ n4_ n5_ n6_
                          (try clear hb)
                          (try clear hb2)
                          (try clear hk)
                          (try clear hi)
                          refine hK.out _ _ ⟨(blk_cell BK228.out 0).trans rfl, (blk_cell BK228.out 1).trans rfl, (blk_cell BK229.out 0).trans rfl, (blk_cell BK229.out 1).trans rfl⟩ (fun hHeld => ?_)
                          clear hK K
                          refine norm_ (a' := ?_) ?_ ?_
                          rotate_left
                          · show Act.put _ (some 120) _ = _
                            simp only [Act.put, List.setIfInBounds_toArray, List.set_cons_zero, List.set_cons_succ, i64_w, i32_w]
                            rfl
                          refine pure_ (i := 7) (N := some 121) (v := ?_) (a' := ?_) #[true, true, true, true, true, true, true, true, false, false, false, false, false, false] rfl rfl (any_of HT_.out (by kernel_rfl)) (fun _ _ _ h => h) (Or.inl ⟨by rfl, ?_⟩) ?_ ?_
                          rotate_left
                          · intro w'
                            go_simp
                            with_reducible rfl
                          rotate_left
                          · simp only [Act.put, List.setIfInBounds_toArray, List.set_cons_zero, List.set_cons_succ, i64_w, i32_w]
                            rfl
                          refine pure_ (i := 8) (N := some 122) (v := ?_) (a' := ?_) #[true, true, true, true, true, true, true, true, true, false, false, false, false, false] rfl rfl (any_of HT_.out (by kernel_rfl)) (fun _ _ _ h => h) (Or.inl ⟨by rfl, ?_⟩) ?_ ?_
                          rotate_left
                          · intro w'
                            go_simp
                            with_reducible rfl
                          rotate_left
                          · simp only [Act.put, List.setIfInBounds_toArray, List.set_cons_zero, List.set_cons_succ, i64_w, i32_w]
                            rfl
                          refine pure_ (i := 9) (N := some 123) (v := ?_) (a' := ?_) #[true, true, true, true, true, true, true, true, true, true, false, false, false, false] rfl rfl (any_of HT_.out (by kernel_rfl)) (fun _ _ _ h => h) (Or.inl ⟨by rfl, ?_⟩) ?_ ?_
                          rotate_left
                          · intro w'
                            go_simp
                            with_reducible rfl
                          rotate_left
                          · simp only [Act.put, List.setIfInBounds_toArray, List.set_cons_zero, List.set_cons_succ, i64_w, i32_w]
                            rfl
                          refine pure_ (i := 10) (N := some 124) (v := undef) (a' := ?_) #[true, true, true, true, true, true, true, true, true, true, true, false, false, false] rfl rfl (any_of HT_.out (by kernel_rfl)) (fun _ _ _ h => h) (Or.inr ⟨by rfl, rfl⟩) ?_ ?_
                          rotate_left
                          · simp only [Act.put, List.setIfInBounds_toArray, List.set_cons_zero, List.set_cons_succ, i64_w, i32_w]
                            rfl
                          refine pure_ (i := 11) (N := some 125) (v := undef) (a' := ?_) #[true, true, true, true, true, true, true, true, true, true, true, true, false, false] rfl rfl (any_of HT_.out (by kernel_rfl)) (fun _ _ _ h => h) (Or.inr ⟨by rfl, rfl⟩) ?_ ?_
                          rotate_left
                          · simp only [Act.put, List.setIfInBounds_toArray, List.set_cons_zero, List.set_cons_succ, i64_w, i32_w]
                            rfl
                          refine pure_ (i := 12) (N := some 126) (v := undef) (a' := ?_) #[true, true, true, true, true, true, true, true, true, true, true, true, true, false] rfl rfl (any_of HT_.out (by kernel_rfl)) (fun _ _ _ h => h) (Or.inr ⟨by rfl, rfl⟩) ?_ ?_
                          rotate_left
                          · simp only [Act.put, List.setIfInBounds_toArray, List.set_cons_zero, List.set_cons_succ, i64_w, i32_w]
                            rfl
                          refine pure_ (i := 13) (N := some 127) (v := ?_) (a' := ?_) #[true, true, true, true, true, true, true, true, true, true, true, true, true, true] rfl rfl (any_of HT_.out (by kernel_rfl)) (fun _ _ _ h => h) (Or.inl ⟨by rfl, ?_⟩) ?_ ?_
                          rotate_left
                          · intro w'
                            go_simp
                            with_reducible rfl
                          rotate_left
                          · simp only [Act.put, List.setIfInBounds_toArray, List.set_cons_zero, List.set_cons_succ, i64_w, i32_w]
                            rfl
                          refine done_ (done_of HT_.out (by kernel_rfl)) ?_
                          try go_wp2
                          go_ret
                          exact ⟨by first | rfl | (simp [errW_none, errW_some] <;> rfl) | (simp [*, errW_none, errW_some] <;> rfl), by repeat (first | (with_reducible first | exact HB.out | apply below_alloc | apply pw_below_drewN | apply below_drew1 | refine below_set ?_ GE228.out | refine below_set ?_ GE229.out | refine below_set ?_ GE231.out) | exact HB.out)⟩
                      · replace c143 := Bool.eq_false_iff.mpr c143
                        subst c143
                        have H1 : (some false) = some r := by rw [if_neg (show ¬ (false = true) by decide)] at H; exact H
                        clear H
                        have H := H1
                        clear H1
                        obtain rfl := Option.some.inj H
                        try go_wp2
                        have n0_ := Aside0.mk (Kd.Q_drew HO_229001.out)
                        have n1_ := Aside0.mk (Kd.R_drew HO_230001.out)
                        have n2_ := Aside0.mk (blk_drew BK228.out)
                        have n3_ := Aside0.mk (blk_drew BK229.out)
                        have n4_ := Aside0.mk (blk_drew BK231.out)
                        have n5_ := Aside0.mk (below_drew1 HB.out)
                        clear HO_229001
                        clear HO_230001
                        clear BK228
                        clear BK229
                        clear BK231
                        clear HB
                        have HO_229001 := n0_
                        have HO_230001 := n1_
                        have BK228 := n2_
                        have BK229 := n3_
                        have BK231 := n4_
                        have HB := n5_
                        clear n0_ n1_ n2_ n3_ n4_ n5_
                        refine start_ (n := 14) (S := fun w' => True) (ds := []) #[false, false, false, false, false, false, false, false, false, false, false, false, false, false] (by kernel_rfl) rfl rfl trivial (fun hHeld => ?_); refine with_tabW waystationlaw06_WheelRow.tab29 waystationlaw06_WheelRow.bits29 (fun HT_ HW_ => ?_)
                        generalize wc.drew = w169 at HO_229001 HO_230001 BK228 BK229 BK231 HB hHeld ⊢
                        refine pure_ (i := 0) (N := some 114) (v := ?_) (a' := ?_) #[true, false, false, false, false, false, false, false, false, false, false, false, false, false] rfl rfl (any_of HT_.out (by kernel_rfl)) (fun _ _ _ h => h) (Or.inl ⟨by rfl, ?_⟩) ?_ ?_
                        rotate_left
                        · intro w'
                          go_simp
                          with_reducible rfl
                        rotate_left
                        · simp only [Act.put, List.setIfInBounds_toArray, List.set_cons_zero, List.set_cons_succ, i64_w, i32_w]
                          rfl
                        refine pure_ (i := 1) (N := some 115) (v := ?_) (a' := ?_) #[true, true, false, false, false, false, false, false, false, false, false, false, false, false] rfl rfl (any_of HT_.out (by kernel_rfl)) (fun _ _ _ h => h) (Or.inl ⟨by rfl, ?_⟩) ?_ ?_
                        rotate_left
                        · intro w'
                          go_simp
                          with_reducible rfl
                        rotate_left
                        · simp only [Act.put, List.setIfInBounds_toArray, List.set_cons_zero, List.set_cons_succ, i64_w, i32_w]
                          rfl
                        refine pure_ (i := 2) (N := some 116) (v := ?_) (a' := ?_) #[true, true, true, false, false, false, false, false, false, false, false, false, false, false] rfl rfl (any_of HT_.out (by kernel_rfl)) (fun _ _ _ h => h) (Or.inl ⟨by rfl, ?_⟩) ?_ ?_
                        rotate_left
                        · intro w'
                          go_simp
                          with_reducible rfl
                        rotate_left
                        · simp only [Act.put, List.setIfInBounds_toArray, List.set_cons_zero, List.set_cons_succ, i64_w, i32_w]
                          rfl
                        refine pure_ (i := 3) (N := some 117) (v := undef) (a' := ?_) #[true, true, true, true, false, false, false, false, false, false, false, false, false, false] rfl rfl (any_of HT_.out (by kernel_rfl)) (fun _ _ _ h => h) (Or.inr ⟨by rfl, rfl⟩) ?_ ?_
                        rotate_left
                        · simp only [Act.put, List.setIfInBounds_toArray, List.set_cons_zero, List.set_cons_succ, i64_w, i32_w]
                          rfl
                        refine pure_ (i := 4) (N := some 118) (v := undef) (a' := ?_) #[true, true, true, true, true, false, false, false, false, false, false, false, false, false] rfl rfl (any_of HT_.out (by kernel_rfl)) (fun _ _ _ h => h) (Or.inr ⟨by rfl, rfl⟩) ?_ ?_
                        rotate_left
                        · simp only [Act.put, List.setIfInBounds_toArray, List.set_cons_zero, List.set_cons_succ, i64_w, i32_w]
                          rfl
                        refine pure_ (i := 5) (N := some 119) (v := undef) (a' := ?_) #[true, true, true, true, true, true, false, false, false, false, false, false, false, false] rfl rfl (any_of HT_.out (by kernel_rfl)) (fun _ _ _ h => h) (Or.inr ⟨by rfl, rfl⟩) ?_ ?_
                        rotate_left
                        · simp only [Act.put, List.setIfInBounds_toArray, List.set_cons_zero, List.set_cons_succ, i64_w, i32_w]
                          rfl
                        refine pure_ (i := 6) (N := some 120) (v := undef) (a' := ?_) #[true, true, true, true, true, true, true, false, false, false, false, false, false, false] rfl rfl (any_of HT_.out (by kernel_rfl)) (fun _ _ _ h => h) (Or.inr ⟨by rfl, rfl⟩) ?_ ?_
                        rotate_left
                        · simp only [Act.put, List.setIfInBounds_toArray, List.set_cons_zero, List.set_cons_succ, i64_w, i32_w]
                          rfl
                        refine pure_ (i := 7) (N := some 121) (v := undef) (a' := ?_) #[true, true, true, true, true, true, true, true, false, false, false, false, false, false] rfl rfl (any_of HT_.out (by kernel_rfl)) (fun _ _ _ h => h) (Or.inr ⟨by rfl, rfl⟩) ?_ ?_
                        rotate_left
                        · simp only [Act.put, List.setIfInBounds_toArray, List.set_cons_zero, List.set_cons_succ, i64_w, i32_w]
                          rfl
                        refine pure_ (i := 8) (N := some 122) (v := ?_) (a' := ?_) #[true, true, true, true, true, true, true, true, true, false, false, false, false, false] rfl rfl (any_of HT_.out (by kernel_rfl)) (fun _ _ _ h => h) (Or.inl ⟨by rfl, ?_⟩) ?_ ?_
                        rotate_left
                        · intro w'
                          go_simp
                          with_reducible rfl
                        rotate_left
                        · simp only [Act.put, List.setIfInBounds_toArray, List.set_cons_zero, List.set_cons_succ, i64_w, i32_w]
                          rfl
                        refine pure_ (i := 9) (N := some 123) (v := ?_) (a' := ?_) #[true, true, true, true, true, true, true, true, true, true, false, false, false, false] rfl rfl (any_of HT_.out (by kernel_rfl)) (fun _ _ _ h => h) (Or.inl ⟨by rfl, ?_⟩) ?_ ?_
                        rotate_left
                        · intro w'
                          go_simp
                          with_reducible rfl
                        rotate_left
                        · simp only [Act.put, List.setIfInBounds_toArray, List.set_cons_zero, List.set_cons_succ, i64_w, i32_w]
                          rfl
                        refine pure_ (i := 10) (N := some 124) (v := undef) (a' := ?_) #[true, true, true, true, true, true, true, true, true, true, true, false, false, false] rfl rfl (any_of HT_.out (by kernel_rfl)) (fun _ _ _ h => h) (Or.inr ⟨by rfl, rfl⟩) ?_ ?_
                        rotate_left
                        · simp only [Act.put, List.setIfInBounds_toArray, List.set_cons_zero, List.set_cons_succ, i64_w, i32_w]
                          rfl
                        refine pure_ (i := 11) (N := some 125) (v := undef) (a' := ?_) #[true, true, true, true, true, true, true, true, true, true, true, true, false, false] rfl rfl (any_of HT_.out (by kernel_rfl)) (fun _ _ _ h => h) (Or.inr ⟨by rfl, rfl⟩) ?_ ?_
                        rotate_left
                        · simp only [Act.put, List.setIfInBounds_toArray, List.set_cons_zero, List.set_cons_succ, i64_w, i32_w]
                          rfl
                        refine pure_ (i := 12) (N := some 126) (v := undef) (a' := ?_) #[true, true, true, true, true, true, true, true, true, true, true, true, true, false] rfl rfl (any_of HT_.out (by kernel_rfl)) (fun _ _ _ h => h) (Or.inr ⟨by rfl, rfl⟩) ?_ ?_
                        rotate_left
                        · simp only [Act.put, List.setIfInBounds_toArray, List.set_cons_zero, List.set_cons_succ, i64_w, i32_w]
                          rfl
                        refine pure_ (i := 13) (N := some 127) (v := ?_) (a' := ?_) #[true, true, true, true, true, true, true, true, true, true, true, true, true, true] rfl rfl (any_of HT_.out (by kernel_rfl)) (fun _ _ _ h => h) (Or.inl ⟨by rfl, ?_⟩) ?_ ?_
                        rotate_left
                        · intro w'
                          go_simp
                          with_reducible rfl
                        rotate_left
                        · simp only [Act.put, List.setIfInBounds_toArray, List.set_cons_zero, List.set_cons_succ, i64_w, i32_w]
                          rfl
                        refine done_ (done_of HT_.out (by kernel_rfl)) ?_
                        try go_wp2
                        go_ret
                        exact ⟨by first | rfl | (simp [errW_none, errW_some] <;> rfl) | (simp [*, errW_none, errW_some] <;> rfl), by repeat (first | (with_reducible first | exact HB.out | apply below_alloc | apply pw_below_drewN | apply below_drew1 | refine below_set ?_ GE228.out | refine below_set ?_ GE229.out | refine below_set ?_ GE231.out) | exact HB.out)⟩
                · rw [if_neg c11] at H
                  exact absurd H (by simp)
              · rw [if_neg c10] at H
                exact absurd H (by simp)
            · replace c9 := Bool.eq_false_iff.mpr c9
              subst c9
              have H1 : (some true) = some r := by rw [if_neg (show ¬ (false = true) by decide)] at H; exact H
              clear H
              have H := H1
              clear H1
              obtain rfl := Option.some.inj H
              go_wp2
              go_ret
              exact ⟨by first | rfl | (simp [errW_none, errW_some] <;> rfl) | (simp [*, errW_none, errW_some] <;> rfl), by repeat (first | (with_reducible first | exact HB.out | apply below_alloc | apply pw_below_drewN | apply below_drew1 | refine below_set ?_ GE228.out | refine below_set ?_ GE229.out) | exact HB.out)⟩
  · replace c3 := Bool.eq_false_iff.mpr c3
    subst c3
    have H1 : (some false) = some r := by rw [if_neg (show ¬ (false = true) by decide)] at H; exact H
    clear H
    have H := H1
    clear H1
    obtain rfl := Option.some.inj H
    go_enter Try.func4, Try.ntmps4
    go_wp2_with (first | ((with_reducible refine gate_callee (f := 10) rfl ?_); refine goesL_ (some 22) rfl rfl Try.func10 (by kernel_rfl) rfl #[] rfl (by (try simp only [List.map_toArray, List.map_cons, List.map_nil]); first | done | rfl | (simp only [List.length_drop, List.length_take]; rfl)) ?_; (with_reducible refine (waystationlaw06_alive.calls  false _ A2.out).mono ?_); rintro e w170 ⟨rfl, hb⟩; refine ⟨_, rfl, ?_⟩; have n0_ := Aside0.mk (below_step (by repeat (first | (with_reducible first | exact HB.out | apply below_alloc | apply pw_below_drewN | apply below_drew1) | exact HB.out)) hb); clear HB; have HB := n0_; clear n0_; (try clear hb); (try clear hb2); (try clear hk); (try clear hi)))
    go_ret
    exact ⟨by first | rfl | (simp [errW_none, errW_some] <;> rfl) | (simp [*, errW_none, errW_some] <;> rfl), by repeat (first | (with_reducible first | exact HB.out | apply below_alloc | apply pw_below_drewN | apply below_drew1) | exact HB.out)⟩

end Go.Proofs.Ytngjohckkgmggaa.P
