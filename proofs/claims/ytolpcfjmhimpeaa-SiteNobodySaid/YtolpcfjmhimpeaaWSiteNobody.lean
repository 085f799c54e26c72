/- A site that no call made answers an error, or nothing; with an error a site stays: the walk of the law SiteNobody. No condition. -/

import Derived.Test.YtolpcfjmhimpeaaSiR
namespace Go.Proofs.Ytolpcfjmhimpeaa.HS
open Go.RowKit Go.Proofs.YtolpcfjmhimpeaaW.PrintWords Go.Proofs.YtolpcfjmhimpeaaW.PrintLast Go.Proofs.YtolpcfjmhimpeaaW.PrintMore Go.Proofs.Ytolpcfjmhimpeaa.P
open Go.Maps (Keyed)
open Go.ChangeMaps Go.MapKept
set_option linter.unusedVariables false
set_option linter.unusedSimpArgs false

theorem part_nil' (w : World) (tx : Int) : Calls Try.prog 16 #[.pointer none, .int .i64 tx] w fun e w' => e = .returned (.tuple #[.agg #[.int .i64 0, .slice none 0 0, .bool false, .int .i64 0], .bool false]) ∧ Below w.heap.size w w' := part_nil w tx
theorem part_empty' (b : Nat) (w : World) (tx : Int) (hc : w.cell? ⟨b, 2, none⟩ = some (.map none)) : Calls Try.prog 16 #[.pointer (some ⟨b, 0, none⟩), .int .i64 tx] w fun e w' => e = .returned (.tuple #[.agg #[.int .i64 0, .slice none 0 0, .bool false, .int .i64 0], .bool false]) ∧ Below w.heap.size w w' := part_empty b w tx hc
theorem blk_step {W W' : World} {g : Nat} {o : Obj} (h : W.heap[g]? = some o) (hb : Below W.heap.size W W') : W'.heap[g]? = some o := (hb.block _ (heap_lt h)).trans h
/-- What a world has that the law goes through. -/
structure Has (w W : World) (gr gs ga : Nat) (x0 x1 x2 x3 : Int) : Prop where
  bel : Below w.heap.size w W
  r : W.heap[gr]? = some (.cells #[.int .i64 x0, .int .i64 x1, .int .u8 x2, .int .i64 x3] 36 (0, 0))
  s : W.heap[gs]? = some (.cells #[.slice none 0 0, .slice none 0 0, .map none, .slice none 0 0] 55 (0, 0))
  a : W.heap[ga]? = some (.cells #[.pointer none, .pointer (some ⟨gs, 0, none⟩)] 24 (0, 0))
theorem Has.step {w W W' : World} {gr gs ga : Nat} {x0 x1 x2 x3 : Int} (h : Has w W gr gs ga x0 x1 x2 x3) (hb : Below W.heap.size W W') : Has w W' gr gs ga x0 x1 x2 x3 :=
  ⟨below_then h.bel h.bel.size hb, blk_step h.r hb, blk_step h.s hb, blk_step h.a hb⟩

set_option maxRecDepth 100000 in
set_option maxHeartbeats 8000000 in
theorem SiteNobody_go (A : Option Addr) (c : Nat) (l : List S36) (x0 x1 x2 x3 : Int) (w : World) (hr : Kd.C k36 w A l.length l) (hc : l.length ≤ c) :
    Calls Try.prog 5 #[.slice A l.length c, .agg #[.int .i64 x0, .int .i64 x1, .int .u8 x2, .int .i64 x3]] w fun e w' => e = .returned (.bool true) ∧ Below w.heap.size w w' := by
  have HAL := Aside0.mk (fun W => alive_calls W)
  have HPL := Aside0.mk (fun (W : World) (hb : Below w.heap.size w W) => played_calls A c l W (Kd.C_below hr hb) hc)
  have HCN := Aside0.mk (playS_cnt l)
  generalize playS l = s0 at HPL HCN
  clear hr hc
  go_enter Try.func5, Try.ntmps5
  have HB0 := Aside0.mk (below_alloc (Below.refl w.heap.size w) (.cells #[.int .i64 x0, .int .i64 x1, .int .u8 x2, .int .i64 x3] 36))
  have HG0 := Aside0.mk (heap_alloc_new w (.cells #[.int .i64 x0, .int .i64 x1, .int .u8 x2, .int .i64 x3] 36))
  go_wp2_with (go_at_call 12; with_reducible refine (HAL.out _).mono ?_; rintro e w1 ⟨rfl, hb⟩; have HB1 := Aside0.mk (below_then HB0.out HB0.out.size hb); have HG1 := Aside0.mk (blk_step HG0.out hb); clear hb)
  have HH : Aside0 (Has w ((w1.alloc (.cells #[.slice none 0 0, .slice none 0 0, .map none, .slice none 0 0] 55)).alloc (.cells #[.pointer none, .pointer (some ⟨w1.heap.size, 0, none⟩)] 24)) w.heap.size w1.heap.size (w1.heap.size + 1) x0 x1 x2 x3) :=
    ⟨⟨below_alloc (below_alloc HB1.out _) _, blk_step (blk_step HG1.out (below_alloc (Below.refl _ _) _)) (below_alloc (Below.refl _ _) _), blk_step (heap_alloc_new w1 _) (below_alloc (Below.refl _ _) _), by rw [show w1.heap.size + 1 = (w1.alloc (.cells #[.slice none 0 0, .slice none 0 0, .map none, .slice none 0 0] 55)).heap.size from by simp]; exact heap_alloc_new _ _⟩⟩
  go_loopg [6, 7, 8, 9, 10, 27] 2 (fun gg _ _ _ _ _ s27 wr => ∃ kk : Nat, s27 = .int .i64 (kk : Int) ∧ Aside0 (kk ≤ 2 ∧ 2 - kk ≤ gg) ∧ Aside0 (Has w wr w.heap.size w1.heap.size (w1.heap.size + 1) x0 x1 x2 x3))
  case atStart => exact ⟨0, rfl, ⟨by omega, by omega⟩, HH⟩
  case round =>
    obtain ⟨kk, rfl, HK, HW⟩ := hrel
    have hkk : kk = 0 ∨ kk = 1 ∨ kk = 2 := by have := HK.out; omega
    obtain ⟨⟨y0, y1, y2, y3⟩, z0, z1, z2, z3⟩ := four HW.out.r
    obtain ⟨a0, a1⟩ := two HW.out.a
    rcases hkk with rfl | rfl | rfl
    · obtain ⟨g', rfl⟩ : ∃ g', gk = g' + 1 := ⟨gk - 1, by have := HK.out; omega⟩
      go_wp2_with (first | (go_at_call 14; with_reducible refine (do_nil _ x0 x1 x2 x3).mono ?_; rintro e w5 ⟨rfl, hb⟩; have HW5 := Aside0.mk (HW.out.step hb); obtain ⟨⟨v0, v1, v2, v3⟩, u0, u1, u2, u3⟩ := four HW5.out.r; clear hb) | (go_at_call 16; with_reducible refine (part_nil' _ x1).mono ?_; rintro e w6 ⟨rfl, hb⟩; have HW6 := Aside0.mk ((HW5.out.step hb).step (below_alloc (Below.refl _ _) (.cells #[.int .i64 0, .slice none 0 0, .bool false, .int .i64 0] 40))); obtain ⟨⟨t0, t1, t2, t3⟩, r0, r1, r2, r3⟩ := four HW6.out.r; clear hb) | (go_at_call 20; with_reducible refine (get_nil _ x2).mono ?_; rintro e w7 ⟨rfl, rfl⟩) | (go_at_call 21; with_reducible refine (log_nil _).mono ?_; rintro e w8 ⟨rfl, rfl⟩))
      go_roundg g'
      case measure => have := HK.out; omega
      case rel => exact ⟨1, by go_num, ⟨by omega, by have := HK.out; omega⟩, HW6⟩
    · obtain ⟨g', rfl⟩ : ∃ g', gk = g' + 1 := ⟨gk - 1, by have := HK.out; omega⟩
      have HE0 := Aside0.mk (four HW.out.s).1.2.2.1
      go_wp2_with (first | (go_at_call 14; with_reducible refine (do_empty _ _ x0 x1 x2 x3 HE0.out).mono ?_; rintro e w5 ⟨rfl, hb⟩; have HW5 := Aside0.mk (HW.out.step hb); have HE5 := Aside0.mk (four HW5.out.s).1.2.2.1; obtain ⟨⟨v0, v1, v2, v3⟩, u0, u1, u2, u3⟩ := four HW5.out.r; clear hb) | (go_at_call 16; with_reducible refine (part_empty' _ _ x1 HE5.out).mono ?_; rintro e w6 ⟨rfl, hb⟩; have HW6 := Aside0.mk ((HW5.out.step hb).step (below_alloc (Below.refl _ _) (.cells #[.int .i64 0, .slice none 0 0, .bool false, .int .i64 0] 40))); have HE6 := Aside0.mk (four HW6.out.s).1.2.2.1; obtain ⟨⟨t0, t1, t2, t3⟩, r0, r1, r2, r3⟩ := four HW6.out.r; clear hb) | (go_at_call 20; with_reducible refine (get_empty _ _ x2 HE6.out).mono ?_; rintro e w7 ⟨rfl, rfl⟩) | (go_at_call 21; with_reducible refine (log_empty _ _ HE6.out).mono ?_; rintro e w8 ⟨rfl, rfl⟩))
      go_roundg g'
      case measure => have := HK.out; omega
      case rel => exact ⟨2, by go_num, ⟨by omega, by have := HK.out; omega⟩, HW6⟩
    · have HPL1 := Aside0.mk (HPL.out _ HW.out.bel)
      go_wp2_with (go_at_call 19; with_reducible refine (HPL1.out).mono ?_; rintro e w5 ⟨b, S0, rfl, hO⟩; have HO5 := Aside0.mk (hO.base HW.out.bel); have HR5 := Aside0.mk (hO.keep HW.out.r); clear hO)
      have HPL2 := Aside0.mk (HPL.out _ HO5.out.bel)
      go_wp2_with (go_at_call 19; with_reducible refine (HPL2.out).mono ?_; rintro e w6 ⟨b2, T0, rfl, hO⟩; have HO6 := Aside0.mk (HO5.out.below hO.bel); have HT6 := Aside0.mk (hO.base HO5.out.bel); have HFAR := Aside0.mk hO.far; have HR6 := Aside0.mk (hO.keep HR5.out); obtain ⟨⟨v0, v1, v2, v3⟩, u0, u1, u2, u3⟩ := four HR6.out; clear hO)
      have HDJ : Aside0 (∀ k, T0 k → ¬ S0 k) := ⟨fun k hT hS => by have := HFAR.out k hT; have := HO5.out.site.lt k hS; omega⟩
      have HD1 := Aside0.mk (do_two HO6.out HT6.out HDJ.out (small_of HCN.out (by omega)) x0 x1 x2 x3)
      have HERR := Aside0.mk (fun h => (doS_err s0 ⟨x0, x1, x2, x3⟩ h).1)
      obtain ⟨d, hd⟩ : ∃ d, doS s0 ⟨x0, x1, x2, x3⟩ = d := ⟨_, rfl⟩
      rw [hd] at HD1 HERR
      obtain ⟨s1, n1, e1⟩ := d
      simp only at HD1 HERR
      clear hd
      by_cases he : e1 = 0
      · subst he
        go_wp2_with (go_at_call 14; with_reducible refine (HD1.out).mono ?_; rintro e w7 ⟨rfl, S2, hO, hT, hd1, hd2, hS, hC⟩; have HB7 := Aside0.mk hO.bel; clear hO hT hd1 hd2 hS hC)
        go_ret
        exact ⟨rfl, HB7.out⟩
      · have q1 : (e1 == 0) = false := by simpa using he
        obtain rfl := HERR.out he
        clear HERR HPL HPL1 HPL2
        go_wp2_with (go_at_call 14; with_reducible refine (HD1.out).mono ?_; rintro e w7 ⟨rfl, S2, hO, hT, hd1, hd2, hS, hC⟩; have HO7 := Aside0.mk hO; have HT7 := Aside0.mk hT; have HJ7 := Aside0.mk hd1; clear hO hT hd1 hd2 hS hC)
        go_loopg [15, 16, 17, 18, 19, 20, 85] 8 (fun gg _ _ _ _ _ _ s85 wr => ∃ kk : Nat, ∃ S T st, s85 = .int .u8 (kk : Int) ∧ Aside0 (kk ≤ 8 ∧ 8 - kk ≤ gg) ∧ Aside0 (Own w wr S b st) ∧ Aside0 (Own w wr T b2 st) ∧ Aside0 (∀ k, T k → ¬ S k) ∧ Aside0 (Cnt (120 + 2 * kk) st))
        case atStart => exact ⟨0, S2, T0, _, rfl, ⟨by omega, by omega⟩, HO7, HT7, HJ7, ⟨HCN.out.mono (by omega)⟩⟩
        case round =>
          obtain ⟨kk, S, T, st, rfl, HK, HO, HT, HJ, HC⟩ := hrel
          by_cases hlt : kk < 8
          · obtain ⟨g', rfl⟩ : ∃ g', gk = g' + 1 := ⟨gk - 1, by have := HK.out; omega⟩
            have hlt' : decide ((kk : Int) < 8) = true := decide_eq_true (by omega)
            have HB2 := Aside0.mk (below_alloc (Below.refl wr.heap.size wr) (.cells #[.int .i64 2, .int .i64 999, .int .u8 (kk : Int), .int .i64 0] 35))
            have HX2 := Aside0.mk (heap_alloc_new wr (.cells #[.int .i64 2, .int .i64 999, .int .u8 (kk : Int), .int .i64 0] 35))
            have HNS : Aside0 (¬ S wr.heap.size) := ⟨fun h => by have := HO.out.site.lt _ h; omega⟩
            have HNT : Aside0 (¬ T wr.heap.size) := ⟨fun h => by have := HT.out.site.lt _ h; omega⟩
            have HO2 := Aside0.mk (HO.out.below HB2.out)
            have HT2 := Aside0.mk (HT.out.below HB2.out)
            have HC1 := Aside0.mk (HC.out.step ⟨1, 999, 0, 0⟩)
            have HC2 := Aside0.mk (HC1.out.step ⟨2, 999, kk, 0⟩)
            have HDa := Aside0.mk (do_two HO2.out HT2.out HJ.out (small_of HC.out (by omega)) 1 999 0 0)
            have HDb := Aside0.mk (fun (W : World) (S : Nat → Prop) (s1 : PSite) (hO : Own w W S b s1) (hT : Own w W T b2 st) (hd : ∀ k, S k → ¬ T k) => do_two hT hO hd (small_of HC.out (by omega)) 1 999 0 0)
            obtain ⟨d1, hd1⟩ : ∃ d, doS st ⟨1, 999, 0, 0⟩ = d := ⟨_, rfl⟩
            rw [hd1] at HDa HDb HC1 HC2
            obtain ⟨s1, n1, e1⟩ := d1
            simp only at HDa HDb HC1 HC2
            clear hd1
            have HDc := Aside0.mk (fun (W : World) (S T : Nat → Prop) (hO : Own w W S b s1) (hT : Own w W T b2 s1) (hd : ∀ k, T k → ¬ S k) => do_two hO hT hd (small_of HC1.out (by omega)) 2 999 kk 0)
            have HDd := Aside0.mk (fun (W : World) (S T : Nat → Prop) (s2 : PSite) (hO : Own w W S b s2) (hT : Own w W T b2 s1) (hd : ∀ k, S k → ¬ T k) => do_two hT hO hd (small_of HC1.out (by omega)) 2 999 kk 0)
            obtain ⟨d2, hd2⟩ : ∃ d, doS s1 ⟨2, 999, kk, 0⟩ = d := ⟨_, rfl⟩
            rw [hd2] at HDc HDd HC2
            obtain ⟨s2, n2, e2⟩ := d2
            simp only at HDc HDd HC2
            clear hd2
            obtain ⟨⟨y4, y5, y6, y7⟩, z4, z5, z6, z7⟩ := four HX2.out
            have HSM2 := Aside0.mk (small_of HC2.out (by omega))
            have i0 : (n2 != n2) = false := by simp
            have i1 : (e2 != e2) = false := by simp
            go_wp2_with (go_at_call 14; with_reducible refine (HDa.out).mono ?_; rintro e w8 ⟨rfl, S3, hO, hT, hd1, hd2, hS, hC⟩; have HO8 := Aside0.mk hO; have HT8 := Aside0.mk hT; have HJ8 := Aside0.mk hd2; have HX8 := Aside0.mk (hC.keep HX2.out HNS.out); have HS8 := Aside0.mk hS; clear hO hT hd1 hd2 hS hC)
            have HNS8 : Aside0 (¬ S3 wr.heap.size) := ⟨fun h => (HS8.out _ h).elim HNS.out (fun h2 => by have := heap_lt HX2.out; omega)⟩
            have HDb8 := Aside0.mk (HDb.out _ _ _ HO8.out HT8.out HJ8.out)
            go_wp2_with (go_at_call 14; with_reducible refine (HDb8.out).mono ?_; rintro e w9 ⟨rfl, T3, hT, hO, hd1, hd2, hS, hC⟩; have HO9 := Aside0.mk hO; have HT9 := Aside0.mk hT; have HJ9 := Aside0.mk hd2; have HX9 := Aside0.mk (hC.keep HX8.out HNT.out); have HS9 := Aside0.mk hS; obtain ⟨⟨v4, v5, v6, v7⟩, u4, u5, u6, u7⟩ := four HX9.out; clear hO hT hd1 hd2 hS hC)
            have HNT9 : Aside0 (¬ T3 wr.heap.size) := ⟨fun h => (HS9.out _ h).elim HNT.out (fun h2 => by have := heap_lt HX8.out; omega)⟩
            have HDc9 := Aside0.mk (HDc.out _ _ _ HO9.out HT9.out HJ9.out)
            go_wp2_with (go_at_call 14; with_reducible refine (HDc9.out).mono ?_; rintro e wa ⟨rfl, S4, hO, hT, hd1, hd2, hS, hC⟩; have HOa := Aside0.mk hO; have HTa := Aside0.mk hT; have HJa := Aside0.mk hd2; have HXa := Aside0.mk (hC.keep HX9.out HNS8.out); obtain ⟨⟨t4, t5, t6, t7⟩, r4, r5, r6, r7⟩ := four HXa.out; clear hO hT hd1 hd2 hS hC)
            have HDda := Aside0.mk (HDd.out _ _ _ _ HOa.out HTa.out HJa.out)
            go_wp2_with (go_at_call 14; with_reducible refine (HDda.out).mono ?_; rintro e wb ⟨rfl, T4, hT, hO, hd1, hd2, hS, hC⟩; have HOb := Aside0.mk hO; have HTb := Aside0.mk hT; have HJb := Aside0.mk hd2; clear hO hT hd1 hd2 hS hC)
            have HG1 := Aside0.mk (get_own HOb.out HSM2.out (kk : Int))
            have HG2 := Aside0.mk (fun (W : World) hb => get_own (HTb.out.below (W' := W) hb) HSM2.out (kk : Int))
            generalize getL s2.led (kk : Int) = nn at HG1 HG2
            have i2 : (nn != nn) = false := by simp
            go_wp2_with (go_at_call 20; with_reducible refine (HG1.out).mono ?_; rintro e wc ⟨rfl, hb⟩; have HBc := Aside0.mk hb; clear hb)
            have HG3 := Aside0.mk (HG2.out _ HBc.out)
            go_wp2_with (go_at_call 20; with_reducible refine (HG3.out).mono ?_; rintro e wd ⟨rfl, hb⟩; have HBd := Aside0.mk (below_then HBc.out HBc.out.size hb); clear hb)
            go_roundg g'
            case measure => have := HK.out; omega
            case rel => exact ⟨kk + 1, _, _, s2, by go_num, ⟨by omega, by have := HK.out; omega⟩, ⟨HOb.out.below HBd.out⟩, ⟨HTb.out.below HBd.out⟩, HJb, ⟨HC2.out.mono (by omega)⟩⟩
          · obtain rfl : kk = 8 := by have := HK.out; omega
            have hlt' : decide ((8 : Int) < 8) = false := by decide
            have HSK := Aside0.mk (small_of HC.out (by omega))
            have HL1 := Aside0.mk (log_own HO.out HSK.out)
            have HL2 := Aside0.mk (fun (W : World) hb => log_own (HT.out.below (W' := W) hb) HSK.out)
            have HOB := Aside0.mk HO.out.bel
            generalize st.log = L at HL1 HL2
            have hne : ((L.length : Int) == (L.length : Int)) = true := by simp
            go_wp2_with (go_at_call 21; with_reducible refine (HL1.out).mono ?_; rintro e w8 ⟨A5, c5, rfl, hc5, hC5, hb⟩; have HB8 := Aside0.mk hb; clear hb hC5 hc5)
            have HL3 := Aside0.mk (HL2.out _ HB8.out)
            go_wp2_with (go_at_call 21; with_reducible refine (HL3.out).mono ?_; rintro e w9 ⟨A6, c6, rfl, hc6, hC6, hb⟩; have HB9 := Aside0.mk (below_then HB8.out HB8.out.size hb); clear hb hC6 hc6)
            go_ret
            exact ⟨rfl, below_then HOB.out HOB.out.size HB9.out⟩
end Go.Proofs.Ytolpcfjmhimpeaa.HS
namespace Go.Proofs.Ytolpcfjmhimpeaa.H
open Go.RowKit Go.Proofs.YtolpcfjmhimpeaaW.PrintWords Go.Proofs.YtolpcfjmhimpeaaW.PrintLast Go.Proofs.YtolpcfjmhimpeaaW.PrintMore Go.Proofs.Ytolpcfjmhimpeaa.P
set_option linter.unusedVariables false
theorem SiteNobody_walk (A0 : Option Addr) (c0 : Nat) (l0 : List S36) {w : World} (hr0 : Kd.C k36 w A0 l0.length l0) (hc0 : l0.length ≤ c0) {Q0 : Prop} (hQ0 : Q0) (x0 x1 x2 x3 : Int) {Q1 : Prop} (hQ1 : Q1) :
    Calls Try.prog 5 #[.slice A0 l0.length c0, .agg #[.int .i64 x0, .int .i64 x1, .int .u8 x2, .int .i64 x3]] w fun e w' => e = .returned (.bool true) ∧ Below w.heap.size w w' := HS.SiteNobody_go A0 c0 l0 x0 x1 x2 x3 w hr0 hc0
end Go.Proofs.Ytolpcfjmhimpeaa.H
