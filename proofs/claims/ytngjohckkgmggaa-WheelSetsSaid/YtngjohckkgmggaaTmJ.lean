/- waystationlaw06.alive. -/

import Derived.Test.YtngjohckkgmggaaTmI
namespace Go.Proofs.Ytngjohckkgmggaa.H
open Go.RowKit Go.Proofs.YtngjohckkgmggaaW.PrintWords Go.Proofs.YtngjohckkgmggaaW.PrintLast Go.Proofs.Ytngjohckkgmggaa.P
set_option linter.unusedVariables false
set_option linter.unusedSimpArgs false

theorem setC {now id at_ now' code : Int} {l l' : List S64} (h : setF now l id at_ = some (now', l', code)) {n n' : Nat} (hn : l.length = n) (hn' : l'.length = n') (A : Option Addr) (c : Nat) (W : World) (hr : Kd.C k64 W A l.length l) (hc : n ≤ c) :
    Calls Try.prog 11 #[.agg #[.int .i64 now, .slice A n c], .int .i64 id, .int .i64 at_] W fun e w' => ∃ (A' : Option Addr) (c' : Nat), e = .returned (.tuple #[.agg #[.int .i64 now', .slice A' n' c'], .int .i64 code]) ∧ Kd.R k64 64 w' W.heap.size (fun _ => True) (.slice A' n' c') l' ∧ Below W.heap.size W w' := by
  subst hn hn'
  refine (set_calls now A c l id at_ now' l' code W hr hc h).mono ?_
  rintro e w' ⟨v, rfl, hR, hb⟩
  obtain ⟨A', c', rfl⟩ := Kd.R_slice hR
  exact ⟨A', c', rfl, hR, hb⟩
theorem tickC {now by_ now' code : Int} {l l' : List S64} {ids : List Int} (h : tickF now l by_ = some (now', l', ids, code)) {n n' m : Nat} (hn : l.length = n) (hn' : l'.length = n') (hm : ids.length = m) (A : Option Addr) (c : Nat) (W : World) (hr : Kd.C k64 W A l.length l) (hc : n ≤ c) :
    Calls Try.prog 16 #[.agg #[.int .i64 now, .slice A n c], .int .i64 by_] W fun e w' => ∃ (A' : Option Addr) (c' : Nat) (A'' : Option Addr) (c'' : Nat), e = .returned (.tuple #[.agg #[.int .i64 now', .slice A' n' c'], .slice A'' m c'', .int .i64 code]) ∧
      Kd.C k64 w' A' l'.length l' ∧ n' ≤ c' ∧ Kd.C (Kd.int .i64) w' A'' ids.length ids ∧ m ≤ c'' ∧ Below W.heap.size W w' := by
  subst hn hn' hm
  refine (tick_calls now A c l by_ now' l' ids code W hr hc h).mono ?_
  rintro e w' ⟨v, u, rfl, hQ, hR, hb⟩
  obtain ⟨A', c', rfl, _⟩ := Kd.Q_slice hQ
  obtain ⟨A'', c'', rfl⟩ := Kd.R_slice hR
  exact ⟨A', c', A'', c'', rfl, (Kd.Q_reads' hQ).2.2, (Kd.Q_reads' hQ).2.1, (Kd.R_reads' hR).2.2, (Kd.R_reads' hR).2.1, hb⟩
theorem nextC {now r1 : Int} {r2 : Bool} {l : List S64} (h : nextF now l = some (r1, r2)) {n : Nat} (hn : l.length = n) (A : Option Addr) (c : Nat) (W : World) (hr : Kd.C k64 W A l.length l) (hc : n ≤ c) :
    Calls Try.prog 18 #[.agg #[.int .i64 now, .slice A n c]] W fun e w' => e = .returned (.tuple #[.int .i64 r1, .bool r2]) ∧ Below W.heap.size W w' := by
  subst hn
  exact next_calls now A c l r1 r2 W hr hc h
theorem rightC {now : Int} {r : Bool} {l : List S64} (h : rightF now l = some r) {n : Nat} (hn : l.length = n) (A : Option Addr) (c : Nat) (W : World) (hr : Kd.C k64 W A l.length l) (hc : n ≤ c) :
    Calls Try.prog 20 #[.agg #[.int .i64 now, .slice A n c]] W fun e w' => e = .returned (.bool r) ∧ Below W.heap.size W w' := by
  subst hn
  exact right_calls now A c l r W hr hc h

/-- A box of a wheel, to be read. -/
structure BoxAt (W : World) (b : Nat) (now : Int) (A : Option Addr) (n c : Nat) (l : List S64) : Prop where
  c0 : W.cell? ⟨b, 0, none⟩ = some (.int .i64 now)
  c1 : W.cell? ⟨b, 1, none⟩ = some (.slice A n c)
  rd : Kd.C k64 W A l.length l
  le : n ≤ c
theorem BoxAt.step {W W' : World} {b : Nat} {now : Int} {A : Option Addr} {n c : Nat} {l : List S64} (h : BoxAt W b now A n c l) (hb : Below W.heap.size W W') : BoxAt W' b now A n c l :=
  ⟨(hb.cell (World.block_lt_of_cell? W _ h.c0)).trans h.c0, (hb.cell (World.block_lt_of_cell? W _ h.c1)).trans h.c1, Kd.C_below h.rd hb, h.le⟩
theorem BoxAt.new {W : World} (now : Int) {A : Option Addr} {n c : Nat} {l : List S64} (hr : Kd.C k64 W A l.length l) (hc : n ≤ c) : BoxAt (W.alloc (.cells #[.int .i64 now, .slice A n c] 28)) W.heap.size now A n c l :=
  ⟨(row_two W _ _ _).cell (by decide), (row_two W _ _ _).cell (by decide), Kd.C_alloc hr _, hc⟩
/-- The box is written anew, with a row that is younger. -/
theorem BoxAt.over {w1 w2 : World} {x y : Value} {now : Int} {A : Option Addr} {n c : Nat} {l : List S64} (hb : Below (w1.alloc (.cells #[x, y] 28)).heap.size (w1.alloc (.cells #[x, y] 28)) w2)
    (hR : Kd.R k64 64 w2 (w1.alloc (.cells #[x, y] 28)).heap.size (fun _ => True) (.slice A n c) l) :
    BoxAt ((w2.setCell ⟨w1.heap.size, 0, none⟩ (.int .i64 now)).setCell ⟨w1.heap.size, 1, none⟩ (.slice A n c)) w1.heap.size now A n c l := by
  have r := ((((row_two w1 28 x y).below hb).set (k := 0) (by decide) (.int .i64 now)).congr (cell2_set0 x y _)).set (k := 1) (by decide) (.slice A n c)
  have r := r.congr (cell2_set1 (.int .i64 now) y _)
  have hR' := far_R (far_R hR (p := ⟨w1.heap.size, 0, none⟩) (by simp) (.int .i64 now)) (p := ⟨w1.heap.size, 1, none⟩) (by simp) (.slice A n c)
  have := Kd.R_reads' hR'
  exact ⟨r.cell (by decide), r.cell (by decide), this.2.2, this.2.1⟩
theorem one_int (W : World) (x : Int) : Kd.C (Kd.int .i64) (W.alloc (.cells #[.int .i64 x] 3)) (some ⟨W.heap.size, 0, none⟩) [x].length [x] := by
  refine ⟨rfl, by simp, fun _ => ⟨_, rfl, fun j p hp => ?_⟩⟩
  match j, hp with
  | 0, hp =>
    simp at hp
    subst hp
    refine ⟨[.int .i64 x], rfl, rfl, fun i u hu => ?_⟩
    match i, hu with
    | 0, hu =>
      simp at hu
      subst hu
      rw [show (⟨W.heap.size, 0, none⟩ : Addr).add (0 * (Kd.int .i64).sz + 0) = ⟨W.heap.size, 0, none⟩ from by simp [Addr.add]]
      go_simp
    | i + 1, hu => simp at hu
  | j + 1, hp => simp at hp

theorem one_int2 (W : World) (o : Obj) (x : Int) : Kd.C (Kd.int .i64) ((W.alloc o).alloc (.cells #[.int .i64 x] 3)) (some ⟨W.heap.size + 1, 0, none⟩) [x].length [x] := by
  have := one_int (W.alloc o) x
  rwa [show (W.alloc o).heap.size = W.heap.size + 1 from by simp] at this

theorem e1 : setF 0 [] 7 5 = some (0, [⟨7, 5⟩], 0) := by rfl
theorem e2 : setF 0 [⟨7, 5⟩] 8 3 = some (0, [⟨8, 3⟩, ⟨7, 5⟩], 0) := by rfl
theorem e3 : nextF 0 [⟨8, 3⟩, ⟨7, 5⟩] = some (3, true) := by rfl
theorem e4 : tickF 0 [⟨8, 3⟩, ⟨7, 5⟩] 4 = some (4, [⟨7, 5⟩], [8], 0) := by rfl
theorem e5 : tickF 4 [⟨7, 5⟩] 1 = some (5, [], [7], 0) := by rfl
theorem e6 : setF 4 [⟨7, 5⟩] 9 4 = some (4, [⟨7, 5⟩], 10) := by rfl
theorem e7 : rightF 0 [⟨8, 3⟩, ⟨7, 5⟩] = some true := by rfl
theorem sameC {l l' : List Int} {n n' : Nat} (hn : l.length = n) (hn' : l'.length = n') (h : waystationlaw06_same.f 9 l l' = some true) (A A' : Option Addr) (c c' : Nat) (W : World) (hr : Kd.C (Kd.int .i64) W A l.length l) (hc : n ≤ c) (hr' : Kd.C (Kd.int .i64) W A' l'.length l') (hc' : n' ≤ c') :
    Calls Try.prog 23 #[.slice A n c, .slice A' n' c'] W fun e w' => e = .returned (.bool true) ∧ Below W.heap.size W w' := by
  subst hn hn'
  exact (waystationlaw06_same.calls 9 A c l A' c' l' true W hr hc hr' hc' h).mono fun e w1 ⟨he, hd⟩ => ⟨he, hd.below⟩

def aliveF : Option Bool := some true

set_option maxRecDepth 100000 in
set_option maxHeartbeats 8000000 in
theorem alive_in (w : World) : Calls Try.prog 10 #[] w fun e w' => e = .returned (.bool true) ∧ Below w.heap.size w w' := by
  have H1 := Aside0.mk (fun W => setC e1 (n := 0) (n' := 1) rfl rfl none 0 W (Kd.C_nil _ _) (Nat.le_refl _))
  have H2 := Aside0.mk (fun A c W hr hc => setC e2 (n := 1) (n' := 2) rfl rfl A c W hr hc)
  have H3 := Aside0.mk (fun A c W hr hc => nextC e3 (n := 2) rfl A c W hr hc)
  have H4 := Aside0.mk (fun A c W hr hc => tickC e4 (n := 2) (n' := 1) (m := 1) rfl rfl rfl A c W hr hc)
  have H5 := Aside0.mk (fun A c W hr hc => tickC e5 (n := 1) (n' := 0) (m := 1) rfl rfl rfl A c W hr hc)
  have H6 := Aside0.mk (fun A c W hr hc => setC e6 (n := 1) (n' := 1) rfl rfl A c W hr hc)
  have H7 := Aside0.mk (fun A c W hr hc => rightC e7 (n := 2) rfl A c W hr hc)
  have H8 := Aside0.mk (fun A c A' c' W hr hc hr' hc' => sameC (l := [8]) (l' := [8]) (n := 1) (n' := 1) rfl rfl (by simp [waystationlaw06_same.f, waystationlaw06_same.l0, rd, wrap64]) A A' c c' W hr hc hr' hc')
  have H9 := Aside0.mk (fun A c A' c' W hr hc hr' hc' => sameC (l := [7]) (l' := [7]) (n := 1) (n' := 1) rfl rfl (by simp [waystationlaw06_same.f, waystationlaw06_same.l0, rd, wrap64]) A A' c c' W hr hc hr' hc')
  go_enter Try.func10, Try.ntmps10
  go_wp2_with (first
    | (go_at_call 11; with_reducible refine (H1.out _).mono ?_; rintro e w1 ⟨A1, c1, rfl, hR1, hb1⟩; have R1 := Aside0.mk (Kd.R_reads' hR1); have B1 := Aside0.mk hb1; clear hR1 hb1)
    | (go_at_call 11; with_reducible refine (H2.out A1 c1 _ (Kd.C_alloc R1.out.2.2 _) R1.out.2.1).mono ?_; rintro e w2 ⟨A2, c2, rfl, hR2, hb2⟩; have RW := (row_two w1 28 (.int .i64 0) (.slice A1 1 c1)).below hb2; have z0 := RW.free 0; have z1 := RW.free 1; have y0 := RW.cell (j := 0) (by decide); have y1 := RW.cell (j := 1) (by decide); have BX2 := Aside0.mk (BoxAt.over (now := 0) hb2 hR2); have B2 := Aside0.mk (((bt (below_alloc B1.out _) hb2).setCell (p := ⟨w1.heap.size, 0, none⟩) B1.out.size (.int .i64 0)).setCell (p := ⟨w1.heap.size, 1, none⟩) B1.out.size (.slice A2 2 c2)); clear hR2 hb2 RW)
    | (go_at_call 18; with_reducible refine (H3.out A2 c2 _ BX2.out.rd BX2.out.le).mono ?_; rintro e w3 ⟨rfl, hb3⟩; have BX3 := Aside0.mk (BX2.out.step hb3); have B3 := Aside0.mk (bt B2.out hb3); have x0 := BX3.out.c0; have x1 := BX3.out.c1; clear hb3 z0 z1 y0 y1)
    | (go_at_call 16; with_reducible refine (H4.out A2 c2 _ BX3.out.rd BX3.out.le).mono ?_; rintro e w4 ⟨A4, c4, Al, cl, rfl, hC4, hc4, hL4, hl4, hb4⟩; have BX4 := Aside0.mk (BX3.out.step hb4); have B4 := Aside0.mk (bt B3.out hb4); have BY4 := Aside0.mk (BoxAt.new 4 hC4 hc4); have L4 := Aside0.mk (And.intro hL4 hl4); clear hC4 hc4 hL4 hl4 hb4 x0 x1)
    | (go_at_call 16; with_reducible refine (H5.out A4 c4 _ BY4.out.rd BY4.out.le).mono ?_; rintro e w5 ⟨A5, c5, Am, cm, rfl, hC5, hc5, hL5, hl5, hb5⟩; have hb45 := bt (below_alloc (Below.refl w4.heap.size w4) _) hb5; have BX5 := Aside0.mk (BX4.out.step hb45); have B5 := Aside0.mk (bt B4.out hb45); have BY5 := Aside0.mk (BY4.out.step hb5); have L5 := Aside0.mk (And.intro (Kd.C_below L4.out.1 hb45) L4.out.2); have M5 := Aside0.mk (And.intro hL5 hl5); have x0 := fun o => (BY5.out.step (below_alloc (Below.refl w5.heap.size w5) o)).c0; have x1 := fun o => (BY5.out.step (below_alloc (Below.refl w5.heap.size w5) o)).c1; clear hC5 hc5 hL5 hl5 hb5 hb45)
    | (go_at_call 11; with_reducible refine (H6.out A4 c4 _ (Kd.C_alloc BY5.out.rd _) BY5.out.le).mono ?_; rintro e w6 ⟨A6, c6, rfl, hR6, hb6⟩; have hb56 := bt (below_alloc (Below.refl w5.heap.size w5) _) hb6; have BX6 := Aside0.mk (BX5.out.step hb56); have B6 := Aside0.mk (bt B5.out hb56); have L6 := Aside0.mk (And.intro (Kd.C_below L5.out.1 hb56) L5.out.2); have M6 := Aside0.mk (And.intro (Kd.C_below M5.out.1 hb56) M5.out.2); clear hR6 hb6 hb56 x0 x1)
    | (go_at_call 23; with_reducible refine (H8.out Al cl _ _ _ (Kd.C_alloc (Kd.C_alloc L6.out.1 _) _) L6.out.2 (one_int2 _ _ _) (Nat.le_refl _)).mono ?_; rintro e w7 ⟨rfl, hb7⟩; have hb67 := bt (below_alloc (below_alloc (Below.refl w6.heap.size w6) _) _) hb7; have BX7 := Aside0.mk (BX6.out.step hb67); have B7 := Aside0.mk (bt B6.out hb67); have M7 := Aside0.mk (And.intro (Kd.C_below M6.out.1 hb67) M6.out.2); clear hb7 hb67)
    | (go_at_call 23; with_reducible refine (H9.out Am cm _ _ _ (Kd.C_alloc M7.out.1 _) M7.out.2 (one_int _ _) (Nat.le_refl _)).mono ?_; rintro e w8 ⟨rfl, hb8⟩; have hb78 := bt (below_alloc (Below.refl w7.heap.size w7) _) hb8; have BX8 := Aside0.mk (BX7.out.step hb78); have B8 := Aside0.mk (bt B7.out hb78); have x0 := BX8.out.c0; have x1 := BX8.out.c1; clear hb8 hb78)
    | (go_at_call 20; with_reducible refine (H7.out A2 c2 _ BX8.out.rd BX8.out.le).mono ?_; rintro e w9 ⟨rfl, hb9⟩; have B9 := Aside0.mk (bt B8.out hb9); clear hb9))
  go_ret
  exact ⟨rfl, B9.out⟩
theorem alive_calls (r : Bool) (w : World) (h : aliveF = some r) : Calls Try.prog 10 #[] w fun e w' => e = .returned (.bool r) ∧ Below w.heap.size w w' := by
  unfold aliveF at h
  injection h with h
  subst h
  exact alive_in w
end Go.Proofs.Ytngjohckkgmggaa.H
