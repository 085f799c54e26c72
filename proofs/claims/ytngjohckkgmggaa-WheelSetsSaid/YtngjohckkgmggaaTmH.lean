/- wheel.Tick: the call. -/

import Derived.Test.YtngjohckkgmggaaTmG
namespace Go.Proofs.Ytngjohckkgmggaa.H
open Go.RowKit Go.Proofs.YtngjohckkgmggaaW.PrintWords Go.Proofs.YtngjohckkgmggaaW.PrintLast Go.Proofs.Ytngjohckkgmggaa.P
set_option linter.unusedVariables false
set_option linter.unusedSimpArgs false

theorem fin_tick {w W : World} {nw : Int} {l : List S64} {k : Nat} {A : Option Addr} {c : Nat} {rv : Value} (h : Tk w W nw l k A c rv) (x y : Value) :
    Kd.Q k64 64 ((W.setCell ⟨w.heap.size + 1, 0, none⟩ x).setCell ⟨w.heap.size + 1, 1, none⟩ y) w.heap.size (fun _ => True) (.slice A (l.length - k) c) (l.drop k) ∧
    Kd.R (Kd.int .i64) 3 ((W.setCell ⟨w.heap.size + 1, 0, none⟩ x).setCell ⟨w.heap.size + 1, 1, none⟩ y) w.heap.size (fun _ => True) rv ((l.take k).map (fun t => t.f0)) ∧
    Below w.heap.size w ((W.setCell ⟨w.heap.size + 1, 0, none⟩ x).setCell ⟨w.heap.size + 1, 1, none⟩ y) :=
  ⟨Kd.Q_lower (far_Q (far_Q h.q (show w.heap.size + 1 < _ by omega) x) (show w.heap.size + 1 < _ by omega) y) (by omega),
   Kd.R_lower (far_I (far_I h.r (show w.heap.size + 1 < _ by omega) x) (show w.heap.size + 1 < _ by omega) y) (by omega),
   (h.fr.le.setCell (Nat.le_succ _) x).setCell (Nat.le_succ _) y⟩

theorem tk_start {w w0 W : World} {l : List S64} {a : Value} {A : Option Addr} {c : Nat} (S : St w w0 W l a (.slice A l.length c) (.int .i64 0) (.slice none 0 0)) (nw : Int) : Tk w (W.setCell ⟨w.heap.size, 0, none⟩ (.int .i64 nw)) nw l 0 A c (.slice none 0 0) :=
  ⟨S.now.set0 _, Kd.Q_of_R (far_R (Kd.R_lower S.row S.size) (show w.heap.size < _ by omega) _), Kd.R_nil _ _ _ _ _⟩

set_option maxRecDepth 100000 in
set_option maxHeartbeats 8000000 in
theorem tick_calls (a0_0 : Int) (A0_1 : Option Addr) (c0_1 : Nat) (l0_1 : List (S64)) (a1 : Int) (r1 : Int) (r2 : List (S64)) (r3 : List Int) (r4 : Int) (w : World) (hr0_1 : Kd.C k64 w A0_1 l0_1.length l0_1) (hc0_1 : l0_1.length ≤ c0_1) (h : tickF a0_0 l0_1 a1 = some (r1, r2, r3, r4)) :
    Calls Try.prog 16 #[.agg #[.int .i64 a0_0, .slice A0_1 l0_1.length c0_1], .int .i64 a1] w fun e w' => ∃ v1_ v2_ : Value, e = .returned (.tuple #[.agg #[.int .i64 r1, v1_], v2_, .int .i64 r4]) ∧ Kd.Q k64 64 w' w.heap.size (fun _ => True) v1_ r2 ∧ Kd.R (Kd.int .i64) 3 w' w.heap.size (fun _ => True) v2_ r3 ∧ Below w.heap.size w w' := by
  obtain ⟨hw, hl⟩ : wfT l0_1 = true ∧ l0_1.length + 1 ≤ 5864062014805 := by
    unfold tickF at h
    split at h
    · assumption
    · cases h
  unfold tickF at h
  rw [if_pos ⟨hw, hl⟩] at h
  have HL := Aside0.mk hl
  have FS := Fr.start w (.int .i64 a0_0) (.slice A0_1 l0_1.length c0_1) (.int .i64 0) (.slice none 0 0)
  have HCl := Aside0.mk (clone_calls A0_1 c0_1 l0_1 ((w.alloc (.cells #[.int .i64 a0_0, .slice A0_1 l0_1.length c0_1] 28)).alloc (.cells #[.int .i64 0, .slice none 0 0] 28)) (Kd.C_below hr0_1 FS.le) (by omega))
  have HFS := Aside0.mk FS
  have HRt := Aside0.mk (fun A c W hr hc => right_calls a0_0 A c l0_1 (right a0_0 l0_1) W hr hc (by unfold rightF; rw [if_pos hw]))
  clear FS hr0_1 hc0_1 hw
  have b3 : (l0_1.length : Int) ≤ 8796093022208 := by omega
  cases hR : right a0_0 l0_1 with
  | false =>
    rw [hR] at HRt
    rw [hR, if_neg (by simp)] at h
    clear hR
    injection h with h
    injection h with h1 h
    injection h with h2 h
    injection h with h3 h4
    subst h1 h2 h3 h4
    clear hl
    go_enter Try.func16, Try.ntmps16
    go_wp2_with (first | (go_at_call 24; refine HCl.out.mono ?_; rintro e w1 ⟨v1, rfl, hR1, hb1⟩; obtain ⟨A1, c1, rfl⟩ := Kd.R_slice hR1; obtain ⟨w0, f0, f1, f2⟩ := after_clone HFS.out hR1 hb1; have S1 := Aside0.mk (St.mk f0 f1 f2); obtain ⟨x0, x1, x2, x3, x4, x5, x6, x7⟩ := (HFS.out.step hb1).facts; clear hR1 hb1 f0 f1 f2) | (go_at_call 20; with_reducible refine (HRt.out A1 c1 _ (Kd.R_reads' S1.out.row).2.2 (Kd.R_reads' S1.out.row).2.1).mono ?_; rintro e w2 ⟨rfl, hb2⟩; have S2 := Aside0.mk (S1.out.step hb2); clear x0 x1 x2 x3 x4 x5 x6 x7; obtain ⟨x0, x1, x2, x3, x4, x5, x6, x7⟩ := S2.out.now.facts; clear hb2))
    (try simp only [Exit.inBlock, Exit.then])
    refine bodyPost_ret (results_ctt rfl _ _ (w.heap.size + 1) 28 #[_, _] (0, 0) _ rfl (Fr.res (S2.out.now) _ _) Try.underlying28 rfl (by kernel_rfl)) rfl ?_
    exact ⟨_, _, rfl, Kd.Q_of_R (fin_res S2.out.size S2.out.now.le S2.out.row _ _).1, Kd.R_nil _ _ _ _ _, (fin_res S2.out.size S2.out.now.le S2.out.row _ _).2⟩
  | true =>
    obtain ⟨hn0, hn1⟩ : 0 ≤ a0_0 ∧ a0_0 ≤ 1099511627776 := by
      have h2 := hR
      unfold right okNow at h2
      simp at h2
      omega
    rw [hR] at HRt
    rw [hR, if_pos rfl] at h
    clear hR
    cases q1 : decide (a1 < 0) with
    | true =>
      rw [q1, if_pos rfl] at h
      injection h with h
      injection h with h1 h
      injection h with h2 h
      injection h with h3 h4
      subst h1 h2 h3 h4
      clear hl
      go_enter Try.func16, Try.ntmps16
      go_wp2_with (first | (go_at_call 24; refine HCl.out.mono ?_; rintro e w1 ⟨v1, rfl, hR1, hb1⟩; obtain ⟨A1, c1, rfl⟩ := Kd.R_slice hR1; obtain ⟨w0, f0, f1, f2⟩ := after_clone HFS.out hR1 hb1; have S1 := Aside0.mk (St.mk f0 f1 f2); obtain ⟨x0, x1, x2, x3, x4, x5, x6, x7⟩ := (HFS.out.step hb1).facts; clear hR1 hb1 f0 f1 f2) | (go_at_call 20; with_reducible refine (HRt.out A1 c1 _ (Kd.R_reads' S1.out.row).2.2 (Kd.R_reads' S1.out.row).2.1).mono ?_; rintro e w2 ⟨rfl, hb2⟩; have S2 := Aside0.mk (S1.out.step hb2); clear x0 x1 x2 x3 x4 x5 x6 x7; obtain ⟨x0, x1, x2, x3, x4, x5, x6, x7⟩ := S2.out.now.facts; clear hb2))
      (try simp only [Exit.inBlock, Exit.then])
      refine bodyPost_ret (results_ctt rfl _ _ (w.heap.size + 1) 28 #[_, _] (0, 0) _ rfl (Fr.res (S2.out.now) _ _) Try.underlying28 rfl (by kernel_rfl)) rfl ?_
      exact ⟨_, _, rfl, Kd.Q_of_R (fin_res S2.out.size S2.out.now.le S2.out.row _ _).1, Kd.R_nil _ _ _ _ _, (fin_res S2.out.size S2.out.now.le S2.out.row _ _).2⟩
    | false =>
      rw [q1, if_neg (by simp)] at h
      obtain ⟨d, hd⟩ : ∃ d, d = 1099511627776 - a0_0 := ⟨_, rfl⟩
      have hw2 : wrap64 (1099511627776 - a0_0) = d := by rw [hd]; unfold wrap64; omega
      rw [← hd] at h
      cases q2 : decide (d < a1) with
      | true =>
        rw [q2, if_pos rfl] at h
        clear hd hn0 hn1
        injection h with h
        injection h with h1 h
        injection h with h2 h
        injection h with h3 h4
        subst h1 h2 h3 h4
        clear hl
        go_enter Try.func16, Try.ntmps16
        go_wp2_with (first | (go_at_call 24; refine HCl.out.mono ?_; rintro e w1 ⟨v1, rfl, hR1, hb1⟩; obtain ⟨A1, c1, rfl⟩ := Kd.R_slice hR1; obtain ⟨w0, f0, f1, f2⟩ := after_clone HFS.out hR1 hb1; have S1 := Aside0.mk (St.mk f0 f1 f2); obtain ⟨x0, x1, x2, x3, x4, x5, x6, x7⟩ := (HFS.out.step hb1).facts; clear hR1 hb1 f0 f1 f2) | (go_at_call 20; with_reducible refine (HRt.out A1 c1 _ (Kd.R_reads' S1.out.row).2.2 (Kd.R_reads' S1.out.row).2.1).mono ?_; rintro e w2 ⟨rfl, hb2⟩; have S2 := Aside0.mk (S1.out.step hb2); clear x0 x1 x2 x3 x4 x5 x6 x7; obtain ⟨x0, x1, x2, x3, x4, x5, x6, x7⟩ := S2.out.now.facts; clear hb2))
        (try simp only [Exit.inBlock, Exit.then])
        refine bodyPost_ret (results_ctt rfl _ _ (w.heap.size + 1) 28 #[_, _] (0, 0) _ rfl (Fr.res (S2.out.now) _ _) Try.underlying28 rfl (by kernel_rfl)) rfl ?_
        exact ⟨_, _, rfl, Kd.Q_of_R (fin_res S2.out.size S2.out.now.le S2.out.row _ _).1, Kd.R_nil _ _ _ _ _, (fin_res S2.out.size S2.out.now.le S2.out.row _ _).2⟩
      | false =>
        rw [q2, if_neg (by simp)] at h
        obtain ⟨nw, hnw⟩ : ∃ nw, nw = a0_0 + a1 := ⟨_, rfl⟩
        have hw3 : wrap64 (a0_0 + a1) = nw := by have h1 := of_decide_eq_false q1; have h2 := of_decide_eq_false q2; rw [hnw]; unfold wrap64; omega
        rw [← hnw] at h
        clear hd hnw hn0 hn1
        injection h with h
        injection h with h1 h
        injection h with h2 h
        injection h with h3 h4
        subst h1 h4
        have H2 := Aside0.mk h2
        have H3 := Aside0.mk h3
        clear h2 h3 hl
        go_enter Try.func16, Try.ntmps16
        go_wp2_with (first | (go_at_call 24; refine HCl.out.mono ?_; rintro e w1 ⟨v1, rfl, hR1, hb1⟩; obtain ⟨A1, c1, rfl⟩ := Kd.R_slice hR1; obtain ⟨w0, f0, f1, f2⟩ := after_clone HFS.out hR1 hb1; have S1 := Aside0.mk (St.mk f0 f1 f2); obtain ⟨x0, x1, x2, x3, x4, x5, x6, x7⟩ := (HFS.out.step hb1).facts; clear hR1 hb1 f0 f1 f2) | (go_at_call 20; with_reducible refine (HRt.out A1 c1 _ (Kd.R_reads' S1.out.row).2.2 (Kd.R_reads' S1.out.row).2.1).mono ?_; rintro e w2 ⟨rfl, hb2⟩; have S2 := Aside0.mk (S1.out.step hb2); clear x0 x1 x2 x3 x4 x5 x6 x7; obtain ⟨x0, x1, x2, x3, x4, x5, x6, x7⟩ := S2.out.now.facts; clear hb2))
        clear x0 x1 x2 x3 x4 x5 x6 x7
        simp only [hw2, hw3]
        clear hw2 hw3
        go_loopg [7] l0_1.length (fun gg s7 wr => ∃ (k : Nat) (A : Option Addr) (c : Nat), Aside0 (k ≤ l0_1.length ∧ l0_1.length - k ≤ gg) ∧ Aside0 (Tk w wr nw l0_1 k A c s7) ∧ Aside0 (∀ j, j < k → rings nw (l0_1.getD j z64) = true))
        case atStart => exact ⟨0, A1, c1, ⟨by omega⟩, ⟨tk_start S2.out nw⟩, ⟨fun j hj => absurd hj (Nat.not_lt_zero _)⟩⟩
        case round =>
          obtain ⟨k, A, c, HK, HT, AF⟩ := hrel
          obtain ⟨m, hm⟩ : ∃ m, l0_1.length - k = m := ⟨_, rfl⟩
          have FX := HT.out.fr.facts
          rw [hm] at FX
          obtain ⟨x0, x1, x2, x3, x4, x5, x6, x7⟩ := FX
          by_cases hk : k < l0_1.length
          · have cb : decide ((0 : Int) < (m : Int)) = true := decide_eq_true (by omega)
            have cb2 : (0 < m) = True := eq_true (by omega)
            have cb3 : ((0 : Int) < (m : Int)) = True := eq_true (by omega)
            have hC := (Kd.Q_reads' HT.out.q).2.2
            obtain ⟨ad, e0, h0, h1⟩ := at_T64 hC 0 (Int.le_refl _) (by simp; omega)
            cases e0
            go_wp2
            have HY : Aside0 (rd_T64 (l0_1.drop k) 0 = l0_1.getD k z64) := ⟨by unfold rd_T64; rw [List.getD_eq_getElem?_getD, List.getElem?_drop, List.getD_eq_getElem?_getD]; rfl⟩
            rw [HY.out] at h0 h1
            have ea : ad.add (Int.toNat 0 * 2) = ad := by obtain ⟨b, o, sp⟩ := ad; cases sp <;> simp [Addr.add]
            rw [ea] at h0 h1
            clear ea
            have HK2 := Aside0.mk hk
            have HM := Aside0.mk hm
            clear hk hm hC
            have cb4 : ((1 : Int) ≤ (m : Int)) = True := eq_true (by have := of_eq_true cb2; omega)
            have cb5 : (1 ≤ m) = True := eq_true (by have := of_eq_true cb2; omega)
            have cb6 : ((m : Int) < 1) = False := eq_false (by have := of_eq_true cb2; omega)
            have cb7 : (m < 1) = False := eq_false (by have := of_eq_true cb2; omega)
            obtain ⟨y, hy⟩ : ∃ y, l0_1.getD k z64 = y := ⟨_, rfl⟩
            rw [hy] at h0 h1 HY
            have HYY := Aside0.mk hy
            clear hy
            cases cr : decide (y.f1 ≤ nw) with
            | false =>
              have HEND := Aside0.mk (rings_end (nw := nw) (l := l0_1) (k := k) HK.out.1 AF.out (.inr (by rw [HYY.out]; exact cr)))
              rw [H2.out, H3.out] at HEND
              go_quiet (fail)
              go_wp2
              have HT2 := Aside0.mk (HT.out.step (pw_below_drewN (Below.refl _ _) nq))
              (try simp only [Exit.inBlock, Exit.then])
              refine bodyPost_ret (results_ctt rfl _ _ (w.heap.size + 1) 28 #[_, _] (0, 0) _ rfl (Fr.res HT2.out.fr _ _) Try.underlying28 rfl (by kernel_rfl)) rfl ?_
              have hfin := fin_tick HT2.out
              rw [HM.out] at hfin
              rw [HEND.out.1, HEND.out.2]
              exact ⟨_, _, rfl, (hfin _ _).1, (hfin _ _).2.1, (hfin _ _).2.2⟩
            | true =>
              go_quiet (fail)
              obtain ⟨v9, w9, hrun, hF9, hT9⟩ := (HT.out.step (pw_below_drewN (Below.refl _ _) nq)).next HK2.out (by have := HL.out; omega)
              rw [HM.out] at hF9 hT9
              rw [HYY.out] at hrun
              have HF9 := Aside0.mk hF9
              have HT9 := Aside0.mk hT9
              obtain ⟨z0, z1, z2, z3, z4, z5, z6, z7⟩ := hF9.facts
              clear hF9 hT9
              by_cases hc1 : c = 1
              · have cc : (c = 1) = True := eq_true hc1
                rw [if_pos hc1] at HT9
                clear hc1
                go_wp2_with (at_builtin; refine Lib.wpList_append_run _ rfl _ _ _ _ rfl _ _ rfl rfl _ _ hrun ?_)
                go_roundg (l0_1.length - (k + 1))
                case measure => have := HK.out; have := HK2.out; omega
                case rel =>
                  refine ⟨k + 1, _, _, ⟨by have := HK2.out; omega, by omega⟩, ⟨HT9.out⟩, ⟨fun j hj => ?_⟩⟩
                  by_cases e : j = k
                  · subst e; rw [HYY.out]; exact cr
                  · exact AF.out j (by omega)
              · have cc : (c = 1) = False := eq_false hc1
                rw [if_neg hc1] at HT9
                clear hc1
                go_wp2_with (at_builtin; refine Lib.wpList_append_run _ rfl _ _ _ _ rfl _ _ rfl rfl _ _ hrun ?_)
                go_roundg (l0_1.length - (k + 1))
                case measure => have := HK.out; have := HK2.out; omega
                case rel =>
                  refine ⟨k + 1, _, _, ⟨by have := HK2.out; omega, by omega⟩, ⟨HT9.out⟩, ⟨fun j hj => ?_⟩⟩
                  by_cases e : j = k
                  · subst e; rw [HYY.out]; exact cr
                  · exact AF.out j (by omega)
          · obtain rfl : m = 0 := by omega
            have HM := Aside0.mk hm
            have HEND := Aside0.mk (rings_end (nw := nw) (l := l0_1) (k := k) HK.out.1 AF.out (.inl (by have := HK.out.1; omega)))
            rw [H2.out, H3.out] at HEND
            clear hm hk
            go_wp2
            go_quiet (fail)
            go_wp2
            have HT2 := Aside0.mk (HT.out.step (pw_below_drewN (Below.refl _ _) nq))
            (try simp only [Exit.inBlock, Exit.then])
            refine bodyPost_ret (results_ctt rfl _ _ (w.heap.size + 1) 28 #[_, _] (0, 0) _ rfl (Fr.res HT2.out.fr _ _) Try.underlying28 rfl (by kernel_rfl)) rfl ?_
            have hfin := fin_tick HT2.out
            rw [HM.out] at hfin
            rw [HEND.out.1, HEND.out.2]
            exact ⟨_, _, rfl, (hfin _ _).1, (hfin _ _).2.1, (hfin _ _).2.2⟩
end Go.Proofs.Ytngjohckkgmggaa.H
