/- One that runs reads what it has added itself on top of what there was: the walk of the law SiteOwn, and the plain law beneath it. No condition. -/

import Derived.Test.YtolpcfjmhimpeaaM4
namespace Go.Proofs.Ytolpcfjmhimpeaa.HS
open Go.RowKit Go.Proofs.YtolpcfjmhimpeaaW.PrintWords Go.Proofs.YtolpcfjmhimpeaaW.PrintLast Go.Proofs.YtolpcfjmhimpeaaW.PrintMore Go.Proofs.Ytolpcfjmhimpeaa.P
open Go.Maps (Keyed)
open Go.ChangeMaps Go.MapKept
set_option linter.unusedVariables false
set_option linter.unusedSimpArgs false

/-! The plain law. -/
theorem SiteOwn_pure {s : PSite} {tx key n : Int} (h : (doS s ⟨2, tx, key, 0⟩).2.2 = 0) :
    (doS (doS (doS s ⟨2, tx, key, 0⟩).1 ⟨3, tx, key, n⟩).1 ⟨2, tx, key, 0⟩).2.2 = 0 ∧
    (doS (doS (doS s ⟨2, tx, key, 0⟩).1 ⟨3, tx, key, n⟩).1 ⟨2, tx, key, 0⟩).2.1 = (if (doS (doS s ⟨2, tx, key, 0⟩).1 ⟨3, tx, key, n⟩).2.2 = 0 then wrap64 ((doS s ⟨2, tx, key, 0⟩).2.1 + n) else (doS s ⟨2, tx, key, 0⟩).2.1) := by
  obtain ⟨hx, hi, hp, hk, he⟩ := read_ok h
  have hR := H.take_rightP hk
  have hT := H.take_again hR hk
  rw [he]
  simp only
  generalize hs1 : ({ s with locks := (H.takeP s.locks tx key false).1, log := s.log ++ [⟨2, tx, key, 0⟩] } : PSite) = s1
  have p1 : s1.parts = s.parts := by rw [← hs1]
  have l1 : s1.led = s.led := by rw [← hs1]
  have k1 : s1.locks = (H.takeP s.locks tx key false).1 := by rw [← hs1]
  by_cases hf : (doS s1 ⟨3, tx, key, n⟩).2.2 = 0
  · rw [if_pos hf]
    obtain ⟨ht, hd⟩ := add_ok (s := s1) hx (by rw [p1]; exact hi) (by rw [p1]; exact hp) hf
    rw [hd]
    simp only
    have hT2 := H.take_again (H.take_rightP ht) ht
    rw [read_is hx (by simp [upd]) (by simp only [upd, if_pos, Option.getD_some]; rw [p1]; exact hp) (by simp only; rw [hT2])]
    refine ⟨rfl, ?_⟩
    simp only [upd, if_pos, Option.getD_some]
    rw [p1, l1]
    unfold ownSum
    rw [List.foldl_append]
    simp
  · rw [if_neg hf, (doS_err s1 _ hf).1, read_is hx (by rw [p1]; exact hi) (by rw [p1]; exact hp) (by rw [k1, hT])]
    refine ⟨rfl, ?_⟩
    simp only
    rw [p1, l1]
theorem SiteOwn_err {s : PSite} {r : S35} (h : (doS s r).2.2 ≠ 0) : (doS s r).2.1 = 0 := (doS_err s r h).2
set_option maxRecDepth 100000 in
set_option maxHeartbeats 8000000 in
theorem SiteOwn_go (A : Option Addr) (c : Nat) (l : List S36) (x0 x1 n : Int) (w : World) (hr : Kd.C k36 w A l.length l) (hc : l.length ≤ c) :
    Calls Try.prog 7 #[.slice A l.length c, .agg #[.int .u8 x0, .int .u8 x1], .int .i64 n] w fun e w' => e = .returned (.bool true) ∧ Below w.heap.size w w' := by
  have HAL := Aside0.mk (fun W => alive_calls W)
  have HPL := Aside0.mk (fun (W : World) (hb : Below w.heap.size w W) => played_calls A c l W (Kd.C_below hr hb) hc)
  have HCN := Aside0.mk (playS_cnt l)
  generalize playS l = st0 at HPL HCN
  obtain ⟨tx, htx⟩ : ∃ t, wrap64 x0 = t := ⟨_, rfl⟩
  have HPU := Aside0.mk (SiteOwn_pure (s := st0) (tx := tx) (key := x1) (n := n))
  have HN1 := Aside0.mk (SiteOwn_err (s := st0) (r := ⟨2, tx, x1, 0⟩))
  have HC1 := Aside0.mk (HCN.out.step ⟨2, tx, x1, 0⟩)
  have HC2 := Aside0.mk (HC1.out.step ⟨3, tx, x1, n⟩)
  clear hr hc
  go_enter Try.func7, Try.ntmps7
  have HB0 := Aside0.mk (below_alloc (Below.refl w.heap.size w) (.cells #[.int .u8 x0, .int .u8 x1] 46))
  have HG0 := Aside0.mk (heap_alloc_new w (.cells #[.int .u8 x0, .int .u8 x1] 46))
  go_wp2_with (go_at_call 12; with_reducible refine (HAL.out _).mono ?_; rintro e w1 ⟨rfl, hb⟩; have HB1 := Aside0.mk (below_then HB0.out HB0.out.size hb); have HG1 := Aside0.mk ((hb.block _ (by simp)).trans HG0.out); clear hb)
  go_wp2_with (go_at_call 19; with_reducible refine (HPL.out _ HB1.out).mono ?_; rintro e w2 ⟨b, S, rfl, hO⟩; have HB2 := Aside0.mk (below_then HB1.out HB1.out.size hO.bel); have HG2 := Aside0.mk (hO.keep HG1.out); have HO2 := Aside0.mk hO; clear hO; obtain ⟨y0, y1⟩ := two HG2.out; have HO3 := Aside0.mk (HO2.out.below (below_alloc (Below.refl _ _) (.cells #[.int .i64 2, .int .i64 tx, .int .u8 x1, .int .i64 0] 35))); have HG3 := Aside0.mk ((Below.heap_alloc w2 (.cells #[.int .i64 2, .int .i64 tx, .int .u8 x1, .int .i64 0] 35) w.heap.size (heap_lt HG2.out)).trans HG2.out); have HR3 := Aside0.mk (heap_alloc_new w2 (.cells #[.int .i64 2, .int .i64 tx, .int .u8 x1, .int .i64 0] 35)); obtain ⟨y2, y3⟩ := two HG3.out; obtain ⟨⟨y4, y5, y6, y7⟩, z4, z5, z6, z7⟩ := four HR3.out)
  have HNR : Aside0 (¬ S w2.heap.size) := ⟨fun h => by have := HO2.out.1.lt _ h; omega⟩
  clear y0 y1 y2 y3
  have HD1 := Aside0.mk (do_own HO3.out (small_of HCN.out (by omega)) 2 tx x1 0)
  obtain ⟨d1, hd1⟩ : ∃ d, doS st0 ⟨2, tx, x1, 0⟩ = d := ⟨_, rfl⟩
  rw [hd1] at HD1 HPU HN1 HC1 HC2
  obtain ⟨s1, n1, e1⟩ := d1
  simp only at HD1 HPU HN1 HC1 HC2
  clear hd1
  by_cases he : e1 = 0
  · subst he
    obtain ⟨hp1, hp2⟩ := HPU.out rfl
    have HP1 := Aside0.mk hp1
    have HP2 := Aside0.mk hp2
    clear hp1 hp2 HPU HN1
    go_wp2_with (go_at_call 14; with_reducible refine (HD1.out).mono ?_; rintro e w3 ⟨rfl, S2, hO, hS, hC⟩; have HO4 := Aside0.mk hO; have HG4 := Aside0.mk ((hC.kp _ (heap_lt HR3.out) HNR.out).trans HR3.out); have HNS4 := Aside0.mk hS; obtain ⟨⟨v4, v5, v6, v7⟩, u4, u5, u6, u7⟩ := four HG4.out; clear hO hS hC)
    have HNR4 : Aside0 (¬ S2 w2.heap.size) := ⟨fun h => (HNS4.out _ h).elim HNR.out (fun h2 => by have := heap_lt HR3.out; omega)⟩
    have HD2 := Aside0.mk (do_own HO4.out (small_of HC1.out (by omega)) 3 tx x1 n)
    obtain ⟨d2, hd2⟩ : ∃ d, doS s1 ⟨3, tx, x1, n⟩ = d := ⟨_, rfl⟩
    rw [hd2] at HD2 HP1 HP2 HC2
    obtain ⟨s2, n2, e2⟩ := d2
    simp only at HD2 HP1 HP2 HC2
    clear hd2 v4 v5 v6 v7 u4 u5 u6 u7 y4 y5 y6 y7 z4 z5 z6 z7
    obtain ⟨d3, hd3⟩ : ∃ d, doS s2 ⟨2, tx, x1, 0⟩ = d := ⟨_, rfl⟩
    rw [hd3] at HP1 HP2
    obtain ⟨s3, n3, e3⟩ := d3
    simp only at HP1 HP2
    obtain rfl := HP1.out
    by_cases he2 : e2 = 0
    · subst he2
      have hn := HP2.out
      rw [if_pos rfl] at hn
      subst hn
      go_wp2_with (go_at_call 14; with_reducible refine (HD2.out).mono ?_; rintro e w4 ⟨rfl, S3, hO, hS, hC⟩; have HO5 := Aside0.mk hO; have HG5 := Aside0.mk ((hC.kp _ (heap_lt HG4.out) HNR4.out).trans HG4.out); obtain ⟨⟨v4, v5, v6, v7⟩, u4, u5, u6, u7⟩ := four HG5.out; clear hO hS hC)
      have HD3 := Aside0.mk (do_own HO5.out (small_of HC2.out (by omega)) 2 tx x1 0)
      rw [hd3] at HD3
      simp only at HD3
      go_wp2_with (go_at_call 14; with_reducible refine (HD3.out).mono ?_; rintro e w5 ⟨rfl, S4, hO, hS, hC⟩; have HB6 := Aside0.mk (below_then HB1.out HB1.out.size hO.bel); clear hO hS hC)
      go_ret
      exact ⟨rfl, HB6.out⟩
    · have hn := HP2.out
      rw [if_neg he2] at hn
      subst hn
      have q2 : (e2 != 0) = true := by simpa using he2
      go_wp2_with (go_at_call 14; with_reducible refine (HD2.out).mono ?_; rintro e w4 ⟨rfl, S3, hO, hS, hC⟩; have HO5 := Aside0.mk hO; have HG5 := Aside0.mk ((hC.kp _ (heap_lt HG4.out) HNR4.out).trans HG4.out); obtain ⟨⟨v4, v5, v6, v7⟩, u4, u5, u6, u7⟩ := four HG5.out; clear hO hS hC)
      have HD3 := Aside0.mk (do_own HO5.out (small_of HC2.out (by omega)) 2 tx x1 0)
      rw [hd3] at HD3
      simp only at HD3
      go_wp2_with (go_at_call 14; with_reducible refine (HD3.out).mono ?_; rintro e w5 ⟨rfl, S4, hO, hS, hC⟩; have HB6 := Aside0.mk (below_then HB1.out HB1.out.size hO.bel); clear hO hS hC)
      go_ret
      exact ⟨rfl, HB6.out⟩
  · obtain rfl := HN1.out he
    have q2 : (e1 != 0) = true := by simpa using he
    go_wp2_with (go_at_call 14; with_reducible refine (HD1.out).mono ?_; rintro e w3 ⟨rfl, S2, hO, hS, hC⟩; have HB6 := Aside0.mk (below_then HB1.out HB1.out.size hO.bel); clear hO hS hC)
    go_ret
    exact ⟨rfl, HB6.out⟩
end Go.Proofs.Ytolpcfjmhimpeaa.HS
namespace Go.Proofs.Ytolpcfjmhimpeaa.H
open Go.RowKit Go.Proofs.YtolpcfjmhimpeaaW.PrintWords Go.Proofs.YtolpcfjmhimpeaaW.PrintLast Go.Proofs.YtolpcfjmhimpeaaW.PrintMore Go.Proofs.Ytolpcfjmhimpeaa.P
set_option linter.unusedVariables false
theorem SiteOwn_walk (A0 : Option Addr) (c0 : Nat) (l0 : List S36) {w : World} (hr0 : Kd.C k36 w A0 l0.length l0) (hc0 : l0.length ≤ c0) {Q0 : Prop} (hQ0 : Q0) (x0 x1 : Int) {Q1 : Prop} (hQ1 : Q1) (a2 : Int) (w2 : (Lit.int .i64 a2).wf = true) :
    Calls Try.prog 7 #[.slice A0 l0.length c0, .agg #[.int .u8 x0, .int .u8 x1], .int .i64 a2] w fun e w' => e = .returned (.bool true) ∧ Below w.heap.size w w' := HS.SiteOwn_go A0 c0 l0 x0 x1 a2 w hr0 hc0
end Go.Proofs.Ytolpcfjmhimpeaa.H
