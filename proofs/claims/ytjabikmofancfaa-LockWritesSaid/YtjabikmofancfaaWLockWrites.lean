/- Who writes a key holds it alone, and nobody else can read it till that one is free: the walk of the law LockWrites. No condition. -/

import Derived.Test.YtjabikmofancfaaWLockReads
import Derived.Test.YtjabikmofancfaaReads
namespace Go.Proofs.Ytjabikmofancfaa.H
open Go.RowKit Go.Proofs.YtjabikmofancfaaW.PrintWords Go.Proofs.YtjabikmofancfaaW.PrintLast Go.Proofs.Ytjabikmofancfaa.P
set_option linter.unusedVariables false
set_option linter.unusedSimpArgs false

theorem take_first (tx key : Int) (w : Bool) (hm : mayB tx key = true) : takeP [] tx key w = ([⟨key, tx, w⟩], 0) := by
  unfold takeP
  rw [if_neg (by simp [right]), if_neg (by rw [hm]; simp), if_neg (by simp), if_neg (by simp [found, spot, bs])]
  rfl
theorem one_right (tx key : Int) (w : Bool) (hm : mayB tx key = true) : RightP [⟨key, tx, w⟩] := ⟨fun h hh => by rw [List.mem_singleton.1 hh]; exact hm, List.pairwise_singleton _ _⟩
theorem take_own (tx key : Int) (w : Bool) (hm : mayB tx key = true) : (takeP [⟨key, tx, true⟩] tx key w).2 = 0 :=
  (take_right (one_right tx key true hm) hm w (by simp [confl])).2
theorem take_other (a b key : Int) (w : Bool) (ha : mayB a key = true) (hb : mayB b key = true) (hne : a ≠ b) : (takeP [⟨key, a, true⟩] b key w).2 = 9 := by
  unfold takeP
  rw [if_neg (by rw [(right_iff _).2 (one_right a key true ha)]; simp), if_neg (by rw [hb]; simp), if_pos (by simp [confl, hne])]
theorem free_one (a key : Int) : keep (ofTx a) [⟨key, a, true⟩] = [] := by simp [keep, ofTx]

theorem takeC (l : List S45) (tx key : Int) (wt : Bool) (A : Option Addr) (c : Nat) (W : World) (hr : Kd.C k45 W A l.length l) (hc : l.length ≤ c) (hl : l.length ≤ 5000) :
    Calls Try.prog 9 #[.slice A l.length c, .int .i64 tx, .int .u8 key, .bool wt] W fun e w' => ∃ v : Value, e = .returned (.tuple #[v, .int .i64 (takeP l tx key wt).2]) ∧ Kd.R k45 45 w' W.heap.size (fun _ => True) v (takeP l tx key wt).1 ∧ Below W.heap.size W w' :=
  take_calls A c l tx key wt _ _ W hr hc (takeF_is l tx key wt hl)

theorem take_firstC (tx key : Int) (W : World) (hm : mayB tx key = true) :
    Calls Try.prog 9 #[.slice none 0 0, .int .i64 tx, .int .u8 key, .bool true] W fun e w' => ∃ (A : Option Addr) (c : Nat), e = .returned (.tuple #[.slice A 1 c, .int .i64 0]) ∧ Kd.C k45 w' A [(⟨key, tx, true⟩ : S45)].length [⟨key, tx, true⟩] ∧ 1 ≤ c ∧ Below W.heap.size W w' := by
  refine (takeC [] tx key true none 0 W (Kd.C_nil _ _) (Nat.le_refl _) (by simp)).mono ?_
  rintro e w' ⟨v, rfl, hR, hb⟩
  rw [take_first tx key true hm] at hR ⊢
  obtain ⟨A, c, rfl⟩ := Kd.R_slice hR
  exact ⟨A, c, rfl, (Kd.R_reads' hR).2.2, (Kd.R_reads' hR).2.1, hb⟩
theorem take_nextC (l : List S45) (tx key : Int) (wt : Bool) (r : Int) (A : Option Addr) (n c : Nat) (W : World) (hn : l.length = n) (hr : Kd.C k45 W A l.length l) (hc : n ≤ c) (hl : n ≤ 5000) (h : (takeP l tx key wt).2 = r) :
    Calls Try.prog 9 #[.slice A n c, .int .i64 tx, .int .u8 key, .bool wt] W fun e w' => ∃ v : Value, e = .returned (.tuple #[v, .int .i64 r]) ∧ Below W.heap.size W w' := by
  subst hn
  subst h
  refine (takeC l tx key wt A c W hr hc hl).mono ?_
  rintro e w' ⟨v, rfl, _, hb⟩
  exact ⟨v, rfl, hb⟩
theorem free_oneC (tx key : Int) (A : Option Addr) (c : Nat) (W : World) (hr : Kd.C k45 W A [(⟨key, tx, true⟩ : S45)].length [⟨key, tx, true⟩]) (hc : 1 ≤ c) :
    Calls Try.prog 16 #[.slice A 1 c, .int .i64 tx] W fun e w' => ∃ (A : Option Addr) (c : Nat), e = .returned (.slice A 0 c) ∧ Below W.heap.size W w' := by
  refine (free_calls A c [⟨key, tx, true⟩] tx _ W hr hc (freeF_is _ _ (by simp))).mono ?_
  rintro e w' ⟨v, rfl, hR, hb⟩
  rw [free_one] at hR
  obtain ⟨A, c, rfl⟩ := Kd.R_slice hR
  exact ⟨A, c, rfl, hb⟩

set_option maxRecDepth 100000 in
set_option maxHeartbeats 4000000 in
theorem writes_in (x0 x1 key f g : Int) (t : Bool) (w : World) (h0 : 0 ≤ x0 ∧ x0 < 65536) (h1 : 0 ≤ x1 ∧ x1 < 65536) (h2 : 0 ≤ key ∧ key < 256) (tt : (x0 % 1000 == x1 % 1000) = t)
    (hf : (takeP [(⟨key % 64, x0 % 1000, true⟩ : S45)] (x1 % 1000) (key % 64) false).2 = f) (hg : (takeP [(⟨key % 64, x0 % 1000, true⟩ : S45)] (x1 % 1000) (key % 64) true).2 = g)
    (hw : (t = true ∧ f = 0 ∧ g = 0) ∨ (t = false ∧ f = 9 ∧ g = 9)) :
    Calls Try.prog 6 #[.agg #[.int .u16 x0, .int .u16 x1], .int .u8 key] w fun e w' => e = .returned (.bool true) ∧ Below w.heap.size w w' := by
  have HAl := Aside0.mk (fun W => waystationlaw07_alive.calls true W alive_is)
  have b0 := h0.1
  have b1 := h0.2
  have b2 := h1.1
  have b3 := h1.2
  have b4 := h2.1
  have b5 := h2.2
  have ma : mayB (x0 % 1000) (key % 64) = true := by unfold mayB; simp; omega
  have mb : mayB (x1 % 1000) (key % 64) = true := by unfold mayB; simp; omega
  have HT0 := Aside0.mk (fun W => take_firstC (x0 % 1000) (key % 64) W ma)
  have HF := Aside0.mk (fun A c W hr hc => take_nextC [(⟨key % 64, x0 % 1000, true⟩ : S45)] (x1 % 1000) (key % 64) false f A 1 c W rfl hr hc (by decide) hf)
  have HG := Aside0.mk (fun A c W hr hc => take_nextC [(⟨key % 64, x0 % 1000, true⟩ : S45)] (x1 % 1000) (key % 64) true g A 1 c W rfl hr hc (by decide) hg)
  have HH := Aside0.mk (fun A c W => take_nextC [] (x1 % 1000) (key % 64) true 0 A 0 c W rfl ⟨rfl, by simp, fun h => absurd h (by simp)⟩ (by omega) (by decide) (by rw [take_first _ _ _ mb]))
  have HFr := Aside0.mk (fun A c W hr hc => free_oneC (x0 % 1000) (key % 64) A c W hr hc)
  have HB := fun o => Aside0.mk (below_alloc (Below.refl w.heap.size w) o)
  clear h0 h1 h2 hf hg
  go_enter Try.func6, Try.ntmps6
  go_wp2_with (go_at_call 7; refine (HAl.out _).mono ?_; rintro e w1 ⟨rfl, hb1⟩; have c0 : w1.cell? ⟨w.heap.size, 0, none⟩ = some (.int .u16 x0) := (hb1.cell (p := ⟨w.heap.size, 0, none⟩) (by simp)).trans (by go_simp); have c1 : w1.cell? ⟨w.heap.size, 1, none⟩ = some (.int .u16 x1) := (hb1.cell (p := ⟨w.heap.size, 1, none⟩) (by simp)).trans (by go_simp); have HB1 := Aside0.mk (bt (HB _).out hb1); clear hb1)
  go_quiet (fail)
  clear c0 c1
  rcases hw with ⟨rfl, rfl, rfl⟩ | ⟨rfl, rfl, rfl⟩
  all_goals
    go_wp2_with (first | (go_at_call 9; with_reducible refine (HT0.out _).mono ?_; rintro e w2 ⟨A2, c2, rfl, hr2, hc2, hb2⟩; have HR2 := Aside0.mk hr2; have HC2 := Aside0.mk hc2; have HB2 := Aside0.mk (bt (by first | exact HB1.out | exact pw_below_drewN HB1.out _) hb2); clear hr2 hc2 hb2) | (go_at_call 9; with_reducible refine (HF.out A2 c2 _ (by first | exact HR2.out | exact Kd.C_drewN HR2.out _) HC2.out).mono ?_; rintro e w3 ⟨v3, rfl, hb3⟩; have HR3 := Aside0.mk (Kd.C_below (by first | exact HR2.out | exact Kd.C_drewN HR2.out _) hb3); have HB3 := Aside0.mk (bt (by first | exact HB2.out | exact pw_below_drewN HB2.out _) hb3); clear hb3) | (go_at_call 9; with_reducible refine (HG.out A2 c2 _ (by first | exact HR3.out | exact Kd.C_drewN HR3.out _) HC2.out).mono ?_; rintro e w4 ⟨v4, rfl, hb4⟩; have HR4 := Aside0.mk (Kd.C_below (by first | exact HR3.out | exact Kd.C_drewN HR3.out _) hb4); have HB4 := Aside0.mk (bt (by first | exact HB3.out | exact pw_below_drewN HB3.out _) hb4); clear hb4) | (go_at_call 16; with_reducible refine (HFr.out A2 c2 _ (by first | exact HR4.out | exact Kd.C_drewN HR4.out _) HC2.out).mono ?_; rintro e w5 ⟨A5, c5, rfl, hb5⟩; have HB5 := Aside0.mk (bt (by first | exact HB4.out | exact pw_below_drewN HB4.out _) hb5); clear hb5) | (go_at_call 9; with_reducible refine (HH.out A5 c5 _).mono ?_; rintro e w6 ⟨v6, rfl, hb6⟩; have HB6 := Aside0.mk (bt (by first | exact HB5.out | exact pw_below_drewN HB5.out _) hb6); clear hb6) | fail)
    all_goals (go_ret; exact ⟨rfl, by first | exact HB6.out | exact pw_below_drewN HB6.out _⟩)
theorem LockWrites_walk (x0 x1 : Int) {w : World} (hQ0 : (Lit.int .u16 x0).wf = true ∧ (Lit.int .u16 x1).wf = true) (a1 : Int) (w1 : (Lit.int .u8 a1).wf = true) :
    Calls Try.prog 6 #[.agg #[.int .u16 x0, .int .u16 x1], .int .u8 a1] w fun e w' => e = .returned (.bool true) ∧ Below w.heap.size w w' := by
  have h0 := wf16 hQ0.1
  have h1 := wf16 hQ0.2
  have h2 := wf8 w1
  have ma : mayB (x0 % 1000) (a1 % 64) = true := by unfold mayB; simp; omega
  have mb : mayB (x1 % 1000) (a1 % 64) = true := by unfold mayB; simp; omega
  by_cases h : x0 % 1000 = x1 % 1000
  · exact writes_in x0 x1 a1 0 0 true w h0 h1 h2 (by simpa using h) (by rw [← h]; exact take_own _ _ _ ma) (by rw [← h]; exact take_own _ _ _ ma) (.inl ⟨rfl, rfl, rfl⟩)
  · exact writes_in x0 x1 a1 9 9 false w h0 h1 h2 (by simpa using h) (take_other _ _ _ _ ma mb h) (take_other _ _ _ _ ma mb h) (.inr ⟨rfl, rfl, rfl⟩)
end Go.Proofs.Ytjabikmofancfaa.H
