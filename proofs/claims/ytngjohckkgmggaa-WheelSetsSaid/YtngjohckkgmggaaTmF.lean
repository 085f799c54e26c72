/- wheel.Set. -/

import Derived.Test.YtngjohckkgmggaaTmE
namespace Go.Proofs.Ytngjohckkgmggaa.H
open Go.RowKit Go.Proofs.YtngjohckkgmggaaW.PrintWords Go.Proofs.YtngjohckkgmggaaW.PrintLast Go.Proofs.Ytngjohckkgmggaa.P
set_option linter.unusedVariables false
set_option linter.unusedSimpArgs false

/-- A box has got a number, and a row of its own call's. -/
theorem after_two {w Wa w1 : World} {a b c d v : Value} {l : List S64} (F : Fr w Wa a b c d) (hR : Kd.R k64 64 w1 Wa.heap.size (fun _ => True) v l) (hb : Below Wa.heap.size Wa w1) (x : Value) :
    ∃ w0, Fr w w0 x v c d ∧ Below w0.heap.size w0 ((w1.setCell ⟨w.heap.size, 0, none⟩ x).setCell ⟨w.heap.size, 1, none⟩ v) ∧ Kd.R k64 64 ((w1.setCell ⟨w.heap.size, 0, none⟩ x).setCell ⟨w.heap.size, 1, none⟩ v) w0.heap.size (fun _ => True) v l := by
  have hs : ((Wa.setCell ⟨w.heap.size, 0, none⟩ x).setCell ⟨w.heap.size, 1, none⟩ v).heap.size = Wa.heap.size := by simp
  refine ⟨(Wa.setCell ⟨w.heap.size, 0, none⟩ x).setCell ⟨w.heap.size, 1, none⟩ v, (F.set0 x).set1 v, ?_, ?_⟩
  · rw [hs]; exact both_set (both_set hb _ _) _ _
  · rw [hs]; exact far_R (far_R hR (by have := F.sz; show w.heap.size < _; omega) x) (by have := F.sz; show w.heap.size < _; omega) v

theorem new_timer (W : World) (a b : Int) : (W.alloc (.cells #[.int .i64 a, .int .i64 b] 64)).heap[W.heap.size]? = some (.cells (cellsH ⟨a, b⟩).toArray 64 (0, 0)) := heap_alloc_new _ _

/-- What Stop leaves of the timers. -/
def stopL (l : List S64) (id : Int) : List S64 := if idx (isId id) l 0 = -1 then l else delH l (idx (isId id) l 0).toNat
theorem stop_is {now : Int} {l : List S64} {id : Int} (hw : wfT l = true) (hr : right now l = true) (hl : l.length + 1 ≤ 5864062014805) : ∃ cd, stopF now l id = some (now, stopL l id, cd) := by
  unfold stopF stopL
  rw [if_pos ⟨hw, by omega⟩, if_pos hr]
  split
  · exact ⟨7, rfl⟩
  · exact ⟨0, rfl⟩
theorem stopL_len (l : List S64) (id : Int) : (stopL l id).length ≤ l.length := by
  unfold stopL
  split
  · exact Nat.le_refl _
  · unfold delH; simp; omega
def setF (now : Int) (l : List S64) (id at_ : Int) : Option (Int × List S64 × Int) :=
  if wfT l = true ∧ l.length + 1 ≤ 5864062014805 then
    (if right now l = true then
      (if decide (at_ ≤ now) = true then some (now, l, 10)
      else if decide (1099511627776 < at_) = true then some (now, l, 3)
      else if idx (isId id) l 0 = -1 ∧ decide (1000 ≤ (l.length : Int)) = true then some (now, l, 6)
      else some (now, insH (stopL l id) (bs (lessH (stopL l id) ⟨id, at_⟩) (stopL l id).length 0 (stopL l id).length).toNat ⟨id, at_⟩, 0))
    else some (now, l, 2)) else none

set_option maxRecDepth 100000 in
set_option maxHeartbeats 8000000 in
theorem set_calls (a0_0 : Int) (A0_1 : Option Addr) (c0_1 : Nat) (l0_1 : List (S64)) (a1 : Int) (a2 : Int) (r1 : Int) (r2 : List (S64)) (r3 : Int) (w : World) (hr0_1 : Kd.C k64 w A0_1 l0_1.length l0_1) (hc0_1 : l0_1.length ≤ c0_1) (h : setF a0_0 l0_1 a1 a2 = some (r1, r2, r3)) :
    Calls Try.prog 11 #[.agg #[.int .i64 a0_0, .slice A0_1 l0_1.length c0_1], .int .i64 a1, .int .i64 a2] w fun e w' => ∃ v1_ : Value, e = .returned (.tuple #[.agg #[.int .i64 r1, v1_], .int .i64 r3]) ∧ Kd.R k64 64 w' w.heap.size (fun _ => True) v1_ r2 ∧ Below w.heap.size w w' := by
  obtain ⟨hw, hl⟩ : wfT l0_1 = true ∧ l0_1.length + 1 ≤ 5864062014805 := by
    unfold setF at h
    split at h
    · assumption
    · cases h
  unfold setF at h
  rw [if_pos ⟨hw, hl⟩] at h
  have HL := Aside0.mk hl
  have HWF := Aside0.mk hw
  have FS := Fr.start w (.int .i64 a0_0) (.slice A0_1 l0_1.length c0_1) (.int .i64 0) (.slice none 0 0)
  have HCl := Aside0.mk (clone_calls A0_1 c0_1 l0_1 ((w.alloc (.cells #[.int .i64 a0_0, .slice A0_1 l0_1.length c0_1] 28)).alloc (.cells #[.int .i64 0, .slice none 0 0] 28)) (Kd.C_below hr0_1 FS.le) (by omega))
  have HFS := Aside0.mk FS
  have HRt := Aside0.mk (fun A c W hr hc => right_calls a0_0 A c l0_1 (right a0_0 l0_1) W hr hc (by unfold rightF; rw [if_pos hw]))
  have HFi := Aside0.mk (fun A c W hr => find_calls a0_0 a1 A c l0_1 W hr)
  clear FS hr0_1 hc0_1 hw
  have b3 : (l0_1.length : Int) ≤ 8796093022208 := by omega
  cases hR : right a0_0 l0_1 with
  | false =>
    rw [hR] at HRt
    rw [hR, if_neg (by simp)] at h
    clear hR
    injection h with h
    injection h with h1 h
    injection h with h2 h3
    subst h1 h2 h3
    clear hl
    go_enter Try.func11, Try.ntmps11
    go_wp2_with (first | (go_at_call 24; refine HCl.out.mono ?_; rintro e w1 ⟨v1, rfl, hR1, hb1⟩; obtain ⟨A1, c1, rfl⟩ := Kd.R_slice hR1; obtain ⟨w0, f0, f1, f2⟩ := after_clone HFS.out hR1 hb1; have S1 := Aside0.mk (St.mk f0 f1 f2); obtain ⟨x0, x1, x2, x3, x4, x5, x6, x7⟩ := (HFS.out.step hb1).facts; clear hR1 hb1 f0 f1 f2) | (go_at_call 20; with_reducible refine (HRt.out A1 c1 _ (Kd.R_reads' S1.out.row).2.2 (Kd.R_reads' S1.out.row).2.1).mono ?_; rintro e w2 ⟨rfl, hb2⟩; have S2 := Aside0.mk (S1.out.step hb2); clear x0 x1 x2 x3 x4 x5 x6 x7; obtain ⟨x0, x1, x2, x3, x4, x5, x6, x7⟩ := S2.out.now.facts; clear hb2))
    (try simp only [Exit.inBlock, Exit.then])
    refine bodyPost_ret (results_ct rfl _ _ (w.heap.size + 1) 28 #[_, _] (0, 0) _ rfl (Fr.res (S2.out.now) _ _) Try.underlying28 rfl (by kernel_rfl)) rfl ?_
    exact ⟨_, rfl, fin_res S2.out.size S2.out.now.le S2.out.row _ _⟩
  | true =>
    have HR0 := Aside0.mk hR
    rw [hR] at HRt
    rw [hR, if_pos rfl] at h
    clear hR
    cases q1 : decide (a2 ≤ a0_0) with
    | true =>
      rw [q1, if_pos rfl] at h
      injection h with h
      injection h with h1 h
      injection h with h2 h3
      subst h1 h2 h3
      clear hl
      go_enter Try.func11, Try.ntmps11
      go_wp2_with (first | (go_at_call 24; refine HCl.out.mono ?_; rintro e w1 ⟨v1, rfl, hR1, hb1⟩; obtain ⟨A1, c1, rfl⟩ := Kd.R_slice hR1; obtain ⟨w0, f0, f1, f2⟩ := after_clone HFS.out hR1 hb1; have S1 := Aside0.mk (St.mk f0 f1 f2); obtain ⟨x0, x1, x2, x3, x4, x5, x6, x7⟩ := (HFS.out.step hb1).facts; clear hR1 hb1 f0 f1 f2) | (go_at_call 20; with_reducible refine (HRt.out A1 c1 _ (Kd.R_reads' S1.out.row).2.2 (Kd.R_reads' S1.out.row).2.1).mono ?_; rintro e w2 ⟨rfl, hb2⟩; have S2 := Aside0.mk (S1.out.step hb2); clear x0 x1 x2 x3 x4 x5 x6 x7; obtain ⟨x0, x1, x2, x3, x4, x5, x6, x7⟩ := S2.out.now.facts; clear hb2))
      (try simp only [Exit.inBlock, Exit.then])
      refine bodyPost_ret (results_ct rfl _ _ (w.heap.size + 1) 28 #[_, _] (0, 0) _ rfl (Fr.res (S2.out.now) _ _) Try.underlying28 rfl (by kernel_rfl)) rfl ?_
      exact ⟨_, rfl, fin_res S2.out.size S2.out.now.le S2.out.row _ _⟩
    | false =>
      rw [q1, if_neg (by simp)] at h
      cases q2 : decide (1099511627776 < a2) with
      | true =>
        rw [q2, if_pos rfl] at h
        injection h with h
        injection h with h1 h
        injection h with h2 h3
        subst h1 h2 h3
        clear hl
        go_enter Try.func11, Try.ntmps11
        go_wp2_with (first | (go_at_call 24; refine HCl.out.mono ?_; rintro e w1 ⟨v1, rfl, hR1, hb1⟩; obtain ⟨A1, c1, rfl⟩ := Kd.R_slice hR1; obtain ⟨w0, f0, f1, f2⟩ := after_clone HFS.out hR1 hb1; have S1 := Aside0.mk (St.mk f0 f1 f2); obtain ⟨x0, x1, x2, x3, x4, x5, x6, x7⟩ := (HFS.out.step hb1).facts; clear hR1 hb1 f0 f1 f2) | (go_at_call 20; with_reducible refine (HRt.out A1 c1 _ (Kd.R_reads' S1.out.row).2.2 (Kd.R_reads' S1.out.row).2.1).mono ?_; rintro e w2 ⟨rfl, hb2⟩; have S2 := Aside0.mk (S1.out.step hb2); clear x0 x1 x2 x3 x4 x5 x6 x7; obtain ⟨x0, x1, x2, x3, x4, x5, x6, x7⟩ := S2.out.now.facts; clear hb2))
        (try simp only [Exit.inBlock, Exit.then])
        refine bodyPost_ret (results_ct rfl _ _ (w.heap.size + 1) 28 #[_, _] (0, 0) _ rfl (Fr.res (S2.out.now) _ _) Try.underlying28 rfl (by kernel_rfl)) rfl ?_
        exact ⟨_, rfl, fin_res S2.out.size S2.out.now.le S2.out.row _ _⟩
      | false =>
        rw [q2, if_neg (by simp)] at h
        rcases idx_facts (isId a1) l0_1 with hi | ⟨k, hk, hi, _⟩
        · rw [hi] at HFi
          cases q3 : decide (1000 ≤ (l0_1.length : Int)) with
          | true =>
            rw [hi, q3, if_pos ⟨rfl, rfl⟩] at h
            clear hi
            injection h with h
            injection h with h1 h
            injection h with h2 h3
            subst h1 h2 h3
            clear hl
            go_enter Try.func11, Try.ntmps11
            go_wp2_with (first | (go_at_call 24; refine HCl.out.mono ?_; rintro e w1 ⟨v1, rfl, hR1, hb1⟩; obtain ⟨A1, c1, rfl⟩ := Kd.R_slice hR1; obtain ⟨w0, f0, f1, f2⟩ := after_clone HFS.out hR1 hb1; have S1 := Aside0.mk (St.mk f0 f1 f2); obtain ⟨x0, x1, x2, x3, x4, x5, x6, x7⟩ := (HFS.out.step hb1).facts; clear hR1 hb1 f0 f1 f2) | (go_at_call 20; with_reducible refine (HRt.out A1 c1 _ (Kd.R_reads' S1.out.row).2.2 (Kd.R_reads' S1.out.row).2.1).mono ?_; rintro e w2 ⟨rfl, hb2⟩; have S2 := Aside0.mk (S1.out.step hb2); clear x0 x1 x2 x3 x4 x5 x6 x7; obtain ⟨x0, x1, x2, x3, x4, x5, x6, x7⟩ := S2.out.now.facts; clear hb2) | (go_at_call 25; with_reducible refine (HFi.out A1 c1 _ (Kd.R_reads' S2.out.row).2.2).mono ?_; rintro e w3 ⟨rfl, hb3⟩; have S3 := Aside0.mk (S2.out.step hb3); clear x0 x1 x2 x3 x4 x5 x6 x7; obtain ⟨x0, x1, x2, x3, x4, x5, x6, x7⟩ := S3.out.now.facts; clear hb3))
            (try simp only [Exit.inBlock, Exit.then])
            refine bodyPost_ret (results_ct rfl _ _ (w.heap.size + 1) 28 #[_, _] (0, 0) _ rfl (Fr.res (S3.out.now) _ _) Try.underlying28 rfl (by kernel_rfl)) rfl ?_
            exact ⟨_, rfl, fin_res S3.out.size S3.out.now.le S3.out.row _ _⟩
          | false =>
            rw [q3, if_neg (by simp)] at h
            clear hi
            clear hl
            obtain ⟨cd, hst⟩ : ∃ cd, stopF a0_0 l0_1 a1 = some (a0_0, stopL l0_1 a1, cd) := stop_is HWF.out HR0.out HL.out
            have HSt := Aside0.mk (fun A c W hr hc => stop_calls a0_0 A c l0_1 a1 _ _ _ W hr hc hst)
            have hln := stopL_len l0_1 a1
            have HL1 : Aside0 ((stopL l0_1 a1).length + 1 ≤ 5864062014805) := ⟨by have := HL.out; omega⟩
            clear hst
            generalize stopL l0_1 a1 = l1 at h HSt HL1 hln
            have HBS := Aside0.mk (fun A c W hr => bsearch_calls A c l1 ⟨a1, a2⟩ W hr (by have := HL1.out; omega))
            obtain ⟨hj0, hj1⟩ := bs_range (lessH l1 ⟨a1, a2⟩) l1.length 0 l1.length (by omega)
            obtain ⟨j, hj⟩ : ∃ j : Nat, bs (lessH l1 ⟨a1, a2⟩) l1.length 0 l1.length = (j : Int) := ⟨(bs (lessH l1 ⟨a1, a2⟩) l1.length 0 l1.length).toNat, by omega⟩
            have HJ : Aside0 (j ≤ l1.length) := ⟨by omega⟩
            rw [hj] at HBS h
            clear hj hj0 hj1 hln
            injection h with h
            injection h with h1 h
            injection h with h2 h3
            subst h1 h3
            rw [Int.toNat_natCast] at h2
            subst h2
            go_enter Try.func11, Try.ntmps11
            go_wp2_with (first | (go_at_call 24; refine HCl.out.mono ?_; rintro e w1 ⟨v1, rfl, hR1, hb1⟩; obtain ⟨A1, c1, rfl⟩ := Kd.R_slice hR1; obtain ⟨w0, f0, f1, f2⟩ := after_clone HFS.out hR1 hb1; have S1 := Aside0.mk (St.mk f0 f1 f2); obtain ⟨x0, x1, x2, x3, x4, x5, x6, x7⟩ := (HFS.out.step hb1).facts; clear hR1 hb1 f0 f1 f2) | (go_at_call 20; with_reducible refine (HRt.out A1 c1 _ (Kd.R_reads' S1.out.row).2.2 (Kd.R_reads' S1.out.row).2.1).mono ?_; rintro e w2 ⟨rfl, hb2⟩; have S2 := Aside0.mk (S1.out.step hb2); clear x0 x1 x2 x3 x4 x5 x6 x7; obtain ⟨x0, x1, x2, x3, x4, x5, x6, x7⟩ := S2.out.now.facts; clear hb2) | (go_at_call 25; with_reducible refine (HFi.out A1 c1 _ (Kd.R_reads' S2.out.row).2.2).mono ?_; rintro e w3 ⟨rfl, hb3⟩; have S3 := Aside0.mk (S2.out.step hb3); clear x0 x1 x2 x3 x4 x5 x6 x7; obtain ⟨x0, x1, x2, x3, x4, x5, x6, x7⟩ := S3.out.now.facts; clear hb3) | (go_at_call 14; with_reducible refine (HSt.out A1 c1 _ (Kd.R_reads' S3.out.row).2.2 (Kd.R_reads' S3.out.row).2.1).mono ?_; rintro e w4 ⟨v4, rfl, hR4, hb4⟩; obtain ⟨A4, c4, rfl⟩ := Kd.R_slice hR4; obtain ⟨w5, f0, f1, f2⟩ := after_two S3.out.now hR4 hb4 (.int .i64 a0_0); have S5 := Aside0.mk (St.mk f0 f1 f2); clear x0 x1 x2 x3 x4 x5 x6 x7; obtain ⟨x0, x1, x2, x3, x4, x5, x6, x7⟩ := (S3.out.now.step hb4).facts; have z5 : ∀ o, (((w4.setCell ⟨w.heap.size, 0, none⟩ (.int .i64 a0_0)).setCell ⟨w.heap.size, 1, none⟩ (.slice A4 l1.length c4)).alloc o).cell? ⟨w.heap.size, 1, none⟩ = some (.slice A4 l1.length c4) := fun o => (S5.out.step (below_alloc (Below.refl _ _) o)).now.facts.2.1; clear hR4 hb4 f0 f1 f2) | (go_at_call 26; with_reducible refine (HBS.out A4 c4 _ (Kd.R_reads' (S5.out.step (below_alloc (Below.refl _ _) _)).row).2.2).mono ?_; rintro e w6 ⟨rfl, hb6⟩; have S6 := Aside0.mk (S5.out.step (bt (below_alloc (Below.refl _ _) _) hb6)); have y0 : w6.cell? ⟨w4.heap.size, 0, none⟩ = some (.int .i64 a1) := (hb6.cell (p := ⟨w4.heap.size, 0, none⟩) (by simp)).trans (by go_simp); have y1 : w6.cell? ⟨w4.heap.size, 1, none⟩ = some (.int .i64 a2) := (hb6.cell (p := ⟨w4.heap.size, 1, none⟩) (by simp)).trans (by go_simp); clear x0 x1 x2 x3 x4 x5 x6 x7; obtain ⟨x0, x1, x2, x3, x4, x5, x6, x7⟩ := S6.out.now.facts; clear hb6) | (go_at_call 28; with_reducible refine (insert_calls l1 _ j w6.heap.size ⟨a1, a2⟩ w5 _ (S6.out.step (below_alloc (Below.refl _ _) _)).le (S6.out.step (below_alloc (Below.refl _ _) _)).row HJ.out (fun e => absurd (Kd.R_lt S6.out.row _ e) (Nat.lt_irrefl _)) (new_timer w6 a1 a2) (by have := HL1.out; omega)).mono ?_; rintro e w7 ⟨v7, rfl, hR7, hb7⟩; obtain ⟨A7, c7, rfl⟩ := Kd.R_slice hR7; have S7 := Aside0.mk (And.intro hR7 hb7); clear x0 x1 x2 x3 x4 x5 x6 x7; obtain ⟨x0, x1, x2, x3, x4, x5, x6, x7⟩ := (S6.out.fr.step hb7).facts; clear hR7 hb7))
            (try simp only [Exit.inBlock, Exit.then])
            refine bodyPost_ret (results_ct rfl _ _ (w.heap.size + 1) 28 #[_, _] (0, 0) _ rfl (Fr.res ((S6.out.fr.step S7.out.2).set1 _) _ _) Try.underlying28 rfl (by kernel_rfl)) rfl ?_
            exact ⟨_, rfl, fin_res S6.out.size ((S6.out.fr.step S7.out.2).set1 _).le (far_R S7.out.1 (show w.heap.size < _ by have := S6.out.size; omega) _) _ _⟩
        · rw [hi] at HFi
          rw [if_neg (by rw [hi]; rintro ⟨h, _⟩; omega)] at h
          have q0 : decide ((k : Int) < 0) = false := decide_eq_false (by omega)
          clear hi hk
          clear hl
          obtain ⟨cd, hst⟩ : ∃ cd, stopF a0_0 l0_1 a1 = some (a0_0, stopL l0_1 a1, cd) := stop_is HWF.out HR0.out HL.out
          have HSt := Aside0.mk (fun A c W hr hc => stop_calls a0_0 A c l0_1 a1 _ _ _ W hr hc hst)
          have hln := stopL_len l0_1 a1
          have HL1 : Aside0 ((stopL l0_1 a1).length + 1 ≤ 5864062014805) := ⟨by have := HL.out; omega⟩
          clear hst
          generalize stopL l0_1 a1 = l1 at h HSt HL1 hln
          have HBS := Aside0.mk (fun A c W hr => bsearch_calls A c l1 ⟨a1, a2⟩ W hr (by have := HL1.out; omega))
          obtain ⟨hj0, hj1⟩ := bs_range (lessH l1 ⟨a1, a2⟩) l1.length 0 l1.length (by omega)
          obtain ⟨j, hj⟩ : ∃ j : Nat, bs (lessH l1 ⟨a1, a2⟩) l1.length 0 l1.length = (j : Int) := ⟨(bs (lessH l1 ⟨a1, a2⟩) l1.length 0 l1.length).toNat, by omega⟩
          have HJ : Aside0 (j ≤ l1.length) := ⟨by omega⟩
          rw [hj] at HBS h
          clear hj hj0 hj1 hln
          injection h with h
          injection h with h1 h
          injection h with h2 h3
          subst h1 h3
          rw [Int.toNat_natCast] at h2
          subst h2
          go_enter Try.func11, Try.ntmps11
          go_wp2_with (first | (go_at_call 24; refine HCl.out.mono ?_; rintro e w1 ⟨v1, rfl, hR1, hb1⟩; obtain ⟨A1, c1, rfl⟩ := Kd.R_slice hR1; obtain ⟨w0, f0, f1, f2⟩ := after_clone HFS.out hR1 hb1; have S1 := Aside0.mk (St.mk f0 f1 f2); obtain ⟨x0, x1, x2, x3, x4, x5, x6, x7⟩ := (HFS.out.step hb1).facts; clear hR1 hb1 f0 f1 f2) | (go_at_call 20; with_reducible refine (HRt.out A1 c1 _ (Kd.R_reads' S1.out.row).2.2 (Kd.R_reads' S1.out.row).2.1).mono ?_; rintro e w2 ⟨rfl, hb2⟩; have S2 := Aside0.mk (S1.out.step hb2); clear x0 x1 x2 x3 x4 x5 x6 x7; obtain ⟨x0, x1, x2, x3, x4, x5, x6, x7⟩ := S2.out.now.facts; clear hb2) | (go_at_call 25; with_reducible refine (HFi.out A1 c1 _ (Kd.R_reads' S2.out.row).2.2).mono ?_; rintro e w3 ⟨rfl, hb3⟩; have S3 := Aside0.mk (S2.out.step hb3); clear x0 x1 x2 x3 x4 x5 x6 x7; obtain ⟨x0, x1, x2, x3, x4, x5, x6, x7⟩ := S3.out.now.facts; clear hb3) | (go_at_call 14; with_reducible refine (HSt.out A1 c1 _ (Kd.R_reads' S3.out.row).2.2 (Kd.R_reads' S3.out.row).2.1).mono ?_; rintro e w4 ⟨v4, rfl, hR4, hb4⟩; obtain ⟨A4, c4, rfl⟩ := Kd.R_slice hR4; obtain ⟨w5, f0, f1, f2⟩ := after_two S3.out.now hR4 hb4 (.int .i64 a0_0); have S5 := Aside0.mk (St.mk f0 f1 f2); clear x0 x1 x2 x3 x4 x5 x6 x7; obtain ⟨x0, x1, x2, x3, x4, x5, x6, x7⟩ := (S3.out.now.step hb4).facts; have z5 : ∀ o, (((w4.setCell ⟨w.heap.size, 0, none⟩ (.int .i64 a0_0)).setCell ⟨w.heap.size, 1, none⟩ (.slice A4 l1.length c4)).alloc o).cell? ⟨w.heap.size, 1, none⟩ = some (.slice A4 l1.length c4) := fun o => (S5.out.step (below_alloc (Below.refl _ _) o)).now.facts.2.1; clear hR4 hb4 f0 f1 f2) | (go_at_call 26; with_reducible refine (HBS.out A4 c4 _ (Kd.R_reads' (S5.out.step (below_alloc (Below.refl _ _) _)).row).2.2).mono ?_; rintro e w6 ⟨rfl, hb6⟩; have S6 := Aside0.mk (S5.out.step (bt (below_alloc (Below.refl _ _) _) hb6)); have y0 : w6.cell? ⟨w4.heap.size, 0, none⟩ = some (.int .i64 a1) := (hb6.cell (p := ⟨w4.heap.size, 0, none⟩) (by simp)).trans (by go_simp); have y1 : w6.cell? ⟨w4.heap.size, 1, none⟩ = some (.int .i64 a2) := (hb6.cell (p := ⟨w4.heap.size, 1, none⟩) (by simp)).trans (by go_simp); clear x0 x1 x2 x3 x4 x5 x6 x7; obtain ⟨x0, x1, x2, x3, x4, x5, x6, x7⟩ := S6.out.now.facts; clear hb6) | (go_at_call 28; with_reducible refine (insert_calls l1 _ j w6.heap.size ⟨a1, a2⟩ w5 _ (S6.out.step (below_alloc (Below.refl _ _) _)).le (S6.out.step (below_alloc (Below.refl _ _) _)).row HJ.out (fun e => absurd (Kd.R_lt S6.out.row _ e) (Nat.lt_irrefl _)) (new_timer w6 a1 a2) (by have := HL1.out; omega)).mono ?_; rintro e w7 ⟨v7, rfl, hR7, hb7⟩; obtain ⟨A7, c7, rfl⟩ := Kd.R_slice hR7; have S7 := Aside0.mk (And.intro hR7 hb7); clear x0 x1 x2 x3 x4 x5 x6 x7; obtain ⟨x0, x1, x2, x3, x4, x5, x6, x7⟩ := (S6.out.fr.step hb7).facts; clear hR7 hb7))
          (try simp only [Exit.inBlock, Exit.then])
          refine bodyPost_ret (results_ct rfl _ _ (w.heap.size + 1) 28 #[_, _] (0, 0) _ rfl (Fr.res ((S6.out.fr.step S7.out.2).set1 _) _ _) Try.underlying28 rfl (by kernel_rfl)) rfl ?_
          exact ⟨_, rfl, fin_res S6.out.size ((S6.out.fr.step S7.out.2).set1 _).le (far_R S7.out.1 (show w.heap.size < _ by have := S6.out.size; omega) _) _ _⟩
end Go.Proofs.Ytngjohckkgmggaa.H
