/- A site that is made of its log answers as it does, now and later: the walk of the law SiteAgain, and the plain law beneath it. No condition. -/

import Derived.Test.YtolpcfjmhimpeaaSiS
namespace Go.Proofs.Ytolpcfjmhimpeaa.HS
open Go.RowKit Go.Proofs.YtolpcfjmhimpeaaW.PrintWords Go.Proofs.YtolpcfjmhimpeaaW.PrintLast Go.Proofs.YtolpcfjmhimpeaaW.PrintMore Go.Proofs.Ytolpcfjmhimpeaa.P
open Go.Maps (Keyed)
open Go.ChangeMaps Go.MapKept
set_option linter.unusedVariables false
set_option linter.unusedSimpArgs false

theorem eqA35' (d : Nat) (w : World) (x0 y0 x1 y1 x2 y2 x3 y3 : Int) :
    (Op.equalIn (d + 2) 35 (.agg #[.int .i64 x0, .int .i64 x1, .int .u8 x2, .int .i64 x3]) (.agg #[.int .i64 y0, .int .i64 y1, .int .u8 y2, .int .i64 y3])).run Try.prog w = .ok (x0 == y0 && (x1 == y1 && (x2 == y2 && (x3 == y3)))) w := by
  refine eqA_of Try.underlying35 (by kernel_rfl) ?_
  refine eqf_cons (by rfl) (by go_simp; rfl) (by go_simp; rfl) (by go_simp) ?_
  refine eqf_cons (by rfl) (by go_simp; rfl) (by go_simp; rfl) (by go_simp) ?_
  refine eqf_cons (by rfl) (by go_simp; rfl) (by go_simp; rfl) (by go_simp) ?_
  exact eqf_last (by rfl) (by go_simp; rfl) (by go_simp; rfl) (by go_simp)
attribute [local go_sem high] eqA35'
theorem cells_below {w W : World} {p0 p1 p2 p3 : Addr} {v0 v1 v2 v3 : Value} (h : w.cell? p0 = some v0 ∧ w.cell? p1 = some v1 ∧ w.cell? p2 = some v2 ∧ w.cell? p3 = some v3) (hb : Below w.heap.size w W) :
    W.cell? p0 = some v0 ∧ W.cell? p1 = some v1 ∧ W.cell? p2 = some v2 ∧ W.cell? p3 = some v3 :=
  ⟨(hb.cell (World.block_lt_of_cell? _ _ h.1)).trans h.1, (hb.cell (World.block_lt_of_cell? _ _ h.2.1)).trans h.2.1, (hb.cell (World.block_lt_of_cell? _ _ h.2.2.1)).trans h.2.2.1, (hb.cell (World.block_lt_of_cell? _ _ h.2.2.2)).trans h.2.2.2⟩

set_option maxRecDepth 100000 in
set_option maxHeartbeats 8000000 in
theorem SiteAgain_go (A : Option Addr) (c : Nat) (l : List S36) (A1 : Option Addr) (c1 : Nat) (m : List S36) (w : World) (hr : Kd.C k36 w A l.length l) (hc : l.length ≤ c) (hr1 : Kd.C k36 w A1 m.length m) (hc1 : m.length ≤ c1) :
    Calls Try.prog 9 #[.slice A l.length c, .slice A1 m.length c1] w fun e w' => e = .returned (.bool true) ∧ Below w.heap.size w w' := by
  have HAL := Aside0.mk (fun W => alive_calls W)
  have HPL := Aside0.mk (fun (W : World) (hb : Below w.heap.size w W) => played_calls A c l W (Kd.C_below hr hb) hc)
  have HCN := Aside0.mk (playS_cnt l)
  have HLG := Aside0.mk (playS_logged l)
  have HRM := Aside0.mk hr1
  generalize playS l = s0 at HPL HCN HLG
  have HSM := Aside0.mk (small_of HCN.out (by omega))
  have HLL := Aside0.mk HCN.out.log
  have HRP := Aside0.mk (fun (A : Option Addr) (c : Nat) (W : World) (hr : Kd.C k35 W A s0.log.length s0.log) (hc : s0.log.length ≤ c) => replay_ok A c s0.log W hr hc (by have := HLL.out; omega) HLG.out.ok)
  have HLO := Aside0.mk (fun (S : Nat → Prop) (b : Nat) (w W : World) (hO : Own w W S b s0) => log_own hO HSM.out)
  rw [HLG.out.same] at HRP
  clear hr hc hr1 HLG
  go_enter Try.func9, Try.ntmps9
  go_wp2_with (first | (go_at_call 12; with_reducible refine (HAL.out _).mono ?_; rintro e w1 ⟨rfl, hb⟩; have HB1 := Aside0.mk hb; clear hb) | (go_at_call 19; with_reducible refine (HPL.out _ HB1.out).mono ?_; rintro e w2 ⟨b, S0, rfl, hO⟩; have HO2 := Aside0.mk (hO.base HB1.out); have HLO2 := Aside0.mk (HLO.out _ _ _ _ hO); clear hO) | (go_at_call 21; with_reducible refine (HLO2.out).mono ?_; rintro e w3 ⟨A3, c3, rfl, hc3, hC3, hb⟩; have HO3 := Aside0.mk (HO2.out.below hb); have HRP3 := Aside0.mk (HRP.out _ _ _ hC3 hc3); clear hb hC3 hc3) | (go_at_call 22; with_reducible refine (HRP3.out).mono ?_; rintro e w4 ⟨b2, T0, rfl, hO⟩; have HO4 := Aside0.mk (HO3.out.below hO.bel); have HT4 := Aside0.mk (hO.base HO3.out.bel); have HFAR := Aside0.mk hO.far; clear hO))
  have HDJ : Aside0 (∀ k, T0 k → ¬ S0 k) := ⟨fun k hT hS => by have := HFAR.out k hT; have := HO3.out.site.lt k hS; omega⟩
  clear HRP HRP3 HLO HLO2 HFAR
  go_loopg [8, 9, 10, 11, 12] 120 (fun gg s8 _ _ _ _ wr => ∃ kk : Nat, ∃ S T, s8 = .int .i64 (kk : Int) ∧ Aside0 (kk ≤ 120 ∧ kk ≤ m.length ∧ 120 - kk ≤ gg) ∧ Aside0 (Own w wr S b (runS s0 (m.take kk))) ∧ Aside0 (Own w wr T b2 (runS s0 (m.take kk))) ∧ Aside0 (∀ k, T k → ¬ S k))
  case atStart => exact ⟨0, S0, T0, rfl, ⟨by omega, Nat.zero_le _, by omega⟩, HO4, HT4, HDJ⟩
  case round =>
    obtain ⟨kk, S, T, rfl, HK, HO, HT, HJ⟩ := hrel
    have HCK : Aside0 (Cnt 240 (runS s0 (m.take kk))) := ⟨(runS_cnt HCN.out _).mono (by rw [List.length_take]; have := HK.out; omega)⟩
    have HSK := Aside0.mk (small_of HCK.out (by omega))
    by_cases hgo : kk < m.length ∧ kk < 120
    · have hlt := hgo.1
      have h12 := hgo.2
      have hlt' : decide ((kk : Int) < (m.length : Int)) = true := decide_eq_true (by omega)
      have h12' : decide ((kk : Int) < 120) = true := decide_eq_true (by omega)
      obtain ⟨g', rfl⟩ : ∃ g', gk = g' + 1 := ⟨gk - 1, by have := HK.out; omega⟩
      obtain ⟨ad, e0, h0, h1, h2, h3⟩ := at_T36 HRM.out (kk : Int) (by omega) (by omega)
      cases e0
      rw [Int.toNat_natCast] at h0 h1 h2 h3
      have HSN := Aside0.mk (runS_take s0 m kk hlt)
      generalize rd_T36 m (kk : Int) = x at h0 h1 h2 h3 HSN
      have HX := Aside0.mk (And.intro h0 (And.intro h1 (And.intro h2 h3)))
      clear h0 h1 h2 h3
      generalize runS s0 (m.take kk) = st at HO HT HSN HSK HCK
      have HDO := Aside0.mk (do_two HO.out HT.out HJ.out HSK.out x.f0 x.f1 x.f2 x.f3)
      have HDT := Aside0.mk (fun (W : World) (S : Nat → Prop) (s1 : PSite) (hO : Own w W S b s1) (hT : Own w W T b2 st) (hd : ∀ k, S k → ¬ T k) => do_two hT hO hd HSK.out x.f0 x.f1 x.f2 x.f3)
      rw [show (⟨x.f0, x.f1, x.f2, x.f3⟩ : S35) = toR x from rfl] at HDO HDT
      obtain ⟨d, hd⟩ : ∃ d, doS st (toR x) = d := ⟨_, rfl⟩
      rw [hd] at HDO HDT HSN
      obtain ⟨s1, n1, e1⟩ := d
      simp only at HDO HDT HSN
      clear hd
      obtain ⟨q0, q1, q2, q3⟩ := cells_below HX.out HO.out.bel
      have i0 : (n1 != n1) = false := by simp
      have i1 : (e1 != e1) = false := by simp
      go_wp2_with (go_at_call 14; with_reducible refine (HDO.out).mono ?_; rintro e w5 ⟨rfl, S2, hO, hT, hd1, hd2, hS, hC⟩; have HO5 := Aside0.mk hO; have HT5 := Aside0.mk hT; have HJ5 := Aside0.mk hd2; obtain ⟨r0, r1, r2, r3⟩ := cells_below HX.out hO.bel; clear hO hT hd1 hd2 hS hC)
      have HDT5 := Aside0.mk (HDT.out _ _ _ HO5.out HT5.out HJ5.out)
      go_wp2_with (go_at_call 14; with_reducible refine (HDT5.out).mono ?_; rintro e w6 ⟨rfl, T2, hT, hO, hd1, hd2, hS, hC⟩; have HO6 := Aside0.mk hO; have HT6 := Aside0.mk hT; have HJ6 := Aside0.mk hd2; clear hO hT hd1 hd2 hS hC)
      go_roundg g'
      case measure => have := HK.out; omega
      case rel => exact ⟨kk + 1, S2, T2, by go_num, ⟨by omega, by omega, by have := HK.out; omega⟩, ⟨by rw [HSN.out]; exact HO6.out⟩, ⟨by rw [HSN.out]; exact HT6.out⟩, HJ6⟩
    · have hend : (¬ kk < m.length ∧ decide ((kk : Int) < (m.length : Int)) = false) ∨ (kk < m.length ∧ ¬ kk < 120 ∧ decide ((kk : Int) < (m.length : Int)) = true ∧ decide ((kk : Int) < 120) = false) := by
        by_cases h : kk < m.length
        · exact .inr ⟨h, by omega, decide_eq_true (by omega), decide_eq_false (by omega)⟩
        · exact .inl ⟨h, decide_eq_false (by omega)⟩
      generalize runS s0 (m.take kk) = st at HO HT HSK HCK
      clear hgo
      rcases hend with ⟨h1, h2⟩ | ⟨h1, h2, h3, h4⟩
      all_goals
        go_wp2
        go_loopg [13, 71] 64 (fun gg _ s71 wr2 => ∃ jj : Nat, s71 = .int .u8 (jj : Int) ∧ Aside0 (jj ≤ 64 ∧ 64 - jj ≤ gg) ∧ Aside0 (Below wr.heap.size wr wr2))
        case atStart => exact ⟨0, rfl, ⟨by omega, by omega⟩, ⟨Below.refl _ _⟩⟩
        case round =>
          obtain ⟨jj, rfl, HJJ, HB⟩ := hrel
          by_cases hlt : jj < 64
          · obtain ⟨g', rfl⟩ : ∃ g', gk = g' + 1 := ⟨gk - 1, by have := HJJ.out; omega⟩
            have hlt' : decide ((jj : Int) < 64) = true := decide_eq_true (by omega)
            have HG1 := Aside0.mk (get_own (HO.out.below HB.out) HSK.out (jj : Int))
            have HG2 := Aside0.mk (fun (W : World) hb => get_own (HT.out.below (W' := W) hb) HSK.out (jj : Int))
            generalize getL st.led (jj : Int) = n at HG1 HG2
            have i0 : (n != n) = false := by simp
            go_wp2_with (go_at_call 20; with_reducible refine (HG1.out).mono ?_; rintro e w5 ⟨rfl, hb⟩; have HB5 := Aside0.mk (below_then HB.out HB.out.size hb); clear hb)
            have HG3 := Aside0.mk (HG2.out _ HB5.out)
            go_wp2_with (go_at_call 20; with_reducible refine (HG3.out).mono ?_; rintro e w6 ⟨rfl, hb⟩; have HB6 := Aside0.mk (below_then HB5.out HB5.out.size hb); clear hb)
            go_roundg g'
            case measure => have := HJJ.out; omega
            case rel => exact ⟨jj + 1, by go_num, ⟨by omega, by have := HJJ.out; omega⟩, HB6⟩
          · obtain rfl : jj = 64 := by have := HJJ.out; omega
            have hlt' : decide ((64 : Int) < 64) = false := by decide
            have HL1 := Aside0.mk (log_own (HO.out.below HB.out) HSK.out)
            have HL2 := Aside0.mk (fun (W : World) hb => log_own (HT.out.below (W' := W) hb) HSK.out)
            have HOB := Aside0.mk HO.out.bel
            have HLN := Aside0.mk HCK.out.log
            generalize st.log = L at HL1 HL2 HLN
            have hne : ((L.length : Int) != (L.length : Int)) = false := by simp
            go_wp2_with (go_at_call 21; with_reducible refine (HL1.out).mono ?_; rintro e w5 ⟨A5, c5, rfl, hc5, hC5, hb⟩; have HB5 := Aside0.mk (below_then HB.out HB.out.size hb); have HC5 := Aside0.mk hC5; clear hb hC5 hc5)
            have HL3 := Aside0.mk (HL2.out _ HB5.out)
            go_wp2_with (go_at_call 21; with_reducible refine (HL3.out).mono ?_; rintro e w6 ⟨A6, c6, rfl, hc6, hC6, hb⟩; have HB6 := Aside0.mk (below_then HB5.out HB5.out.size hb); have HC6 := Aside0.mk hC6; have HC5' := Aside0.mk (Kd.C_below HC5.out hb); clear hb hC6 hc6)
            have HE6 := Aside0.mk (below_then HOB.out HOB.out.size HB6.out)
            clear HL1 HL2 HL3 HC5 HB5 HB6 HB HO HT HSK HCK
            go_loopg [16, 93] L.length (fun gg _ s93 wr2 => ∃ jj : Nat, s93 = .int .i64 (jj : Int) ∧ Aside0 (jj ≤ L.length ∧ L.length - jj ≤ gg) ∧ Aside0 (Below w6.heap.size w6 wr2))
            case atStart => exact ⟨0, rfl, ⟨by omega, by omega⟩, ⟨Below.refl _ _⟩⟩
            case round =>
              obtain ⟨jj, rfl, HJ, HB⟩ := hrel
              by_cases hlt : jj < L.length
              · obtain ⟨g', rfl⟩ : ∃ g', gk = g' + 1 := ⟨gk - 1, by have := HJ.out; omega⟩
                have hlt' : decide ((jj : Int) < (L.length : Int)) = true := decide_eq_true (by omega)
                obtain ⟨ad1, e1, p0, p1, p2, p3⟩ := at_T35 HC5'.out (jj : Int) (by omega) (by omega)
                obtain ⟨ad2, e2, q0, q1, q2, q3⟩ := at_T35 HC6.out (jj : Int) (by omega) (by omega)
                cases e1
                cases e2
                rw [Int.toNat_natCast] at p0 p1 p2 p3 q0 q1 q2 q3
                generalize rd_T35 L (jj : Int) = y at p0 p1 p2 p3 q0 q1 q2 q3
                obtain ⟨v0, v1, v2, v3⟩ := cells_below ⟨p0, p1, p2, p3⟩ HB.out
                obtain ⟨u0, u1, u2, u3⟩ := cells_below ⟨q0, q1, q2, q3⟩ HB.out
                clear p0 p1 p2 p3 q0 q1 q2 q3
                go_wp2
                go_region
                all_goals
                  go_wp2
                  go_roundg g'
                  case measure => have := HJ.out; omega
                  case rel => exact ⟨jj + 1, by have := HLN.out; rw [show wrap64 ((jj : Int) + 1) = ((jj + 1 : Nat) : Int) from by unfold wrap64; omega], ⟨by omega, by have := HJ.out; omega⟩, ⟨below_drew HB.out⟩⟩
              · obtain rfl : jj = L.length := by have := HJ.out; omega
                have hlt' : decide ((L.length : Int) < (L.length : Int)) = false := decide_eq_false (by omega)
                go_wp2
                go_ret
                exact ⟨rfl, below_then HE6.out HE6.out.size HB.out⟩
end Go.Proofs.Ytolpcfjmhimpeaa.HS
namespace Go.Proofs.Ytolpcfjmhimpeaa.H
open Go.RowKit Go.Proofs.YtolpcfjmhimpeaaW.PrintWords Go.Proofs.YtolpcfjmhimpeaaW.PrintLast Go.Proofs.YtolpcfjmhimpeaaW.PrintMore Go.Proofs.Ytolpcfjmhimpeaa.P
set_option linter.unusedVariables false
theorem SiteAgain_walk (A0 : Option Addr) (c0 : Nat) (l0 : List S36) {w : World} (hr0 : Kd.C k36 w A0 l0.length l0) (hc0 : l0.length ≤ c0) {Q0 : Prop} (hQ0 : Q0) (A1 : Option Addr) (c1 : Nat) (l1 : List S36) (hr1 : Kd.C k36 w A1 l1.length l1) (hc1 : l1.length ≤ c1) {Q1 : Prop} (hQ1 : Q1) :
    Calls Try.prog 9 #[.slice A0 l0.length c0, .slice A1 l1.length c1] w fun e w' => e = .returned (.bool true) ∧ Below w.heap.size w w' := HS.SiteAgain_go A0 c0 l0 A1 c1 l1 w hr0 hc0 hr1 hc1
end Go.Proofs.Ytolpcfjmhimpeaa.H
