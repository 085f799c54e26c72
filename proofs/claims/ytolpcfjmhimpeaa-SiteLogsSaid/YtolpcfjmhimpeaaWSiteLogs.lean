/- The log has just the calls that answered OK, in order: the walk of the law SiteLogs. No condition. -/

import Derived.Test.YtolpcfjmhimpeaaM4
namespace Go.Proofs.Ytolpcfjmhimpeaa.HS
open Go.RowKit Go.Proofs.YtolpcfjmhimpeaaW.PrintWords Go.Proofs.YtolpcfjmhimpeaaW.PrintLast Go.Proofs.YtolpcfjmhimpeaaW.PrintMore Go.Proofs.Ytolpcfjmhimpeaa.P
open Go.Maps (Keyed)
open Go.ChangeMaps Go.MapKept
set_option linter.unusedVariables false
set_option linter.unusedSimpArgs false

theorem wpList_append_is {P : Program} {ops : Array Oper} {o : Oper} {rest : List Oper} {a : Act} {w : World} {Q : Exit → Act → World → Prop}
    (hg : o.guard = none) (d x : Operand) (dT sT : TypeId) (hop : o.op = Op.call { callee := Callee.builtin Builtin.append, args := #[d, x], argTypes := #[dT, sT] })
    (v u : Value) (hd : a.eval d = v) (hx : a.eval x = u) {v' : Value} {w' : World} (hr : (Builtin.append_ #[dT, sT] o.type #[v, u]).run P w = .ok v' w') (hK : wpList P ops Q rest (a.put o.dst v') w') :
    wpList P ops Q (o :: rest) a w := by
  refine wpList_plain hg fun K h => ?_
  unfold Oper.wp execOp
  simp only [hop, resolve, invoke, builtin, Sem.run_bind, Sem.run_pure, Result.andThen_ok, List.map_toArray, List.map_cons, List.map_nil, hd, hx, hr]
  exact h _ _ hK

/-- A row of the caller's, beside a site. -/
def Beside (w W : World) (S : Nat → Prop) (v : Value) (l : List S35) : Prop := Kd.R k35 35 W 0 (fun k => w.heap.size ≤ k ∧ ¬ S k) v l
theorem Beside.done {w W W' : World} {S S' : Nat → Prop} {v : Value} {l : List S35} (h : Beside w W S v l) (hC : Chg W W' S) (hS : ∀ k, S' k → S k ∨ W.heap.size ≤ k) : Beside w W' S' v l :=
  Kd.R_mono (Kd.R_step (Kd.R_bound h) (fun k hk hlt => hC.kp k hlt hk.1.2)) (fun k hk => ⟨hk.1.1, fun hs => (hS k hs).elim hk.1.2 (fun h2 => by have := hk.2.2.1; omega)⟩)
theorem Beside.below {w W W' : World} {S : Nat → Prop} {v : Value} {l : List S35} (h : Beside w W S v l) (hb : Below W.heap.size W W') : Beside w W' S v l := Kd.R_below h hb
theorem Beside.slice {w W : World} {S : Nat → Prop} {v : Value} {l : List S35} (h : Beside w W S v l) : ∃ A c, v = .slice A l.length c := Kd.R_slice h
theorem Beside.reads {w W : World} {S : Nat → Prop} {A : Option Addr} {n c : Nat} {l : List S35} (h : Beside w W S (.slice A n c) l) : n = l.length ∧ n ≤ c ∧ Kd.C k35 W A l.length l := Kd.R_reads' h
theorem Own.append {w W : World} {S : Nat → Prop} {b : Nat} {st : PSite} (h : Own w W S b st) {v : Value} {l : List S35} (hv : Beside w W S v l) (x : S35) (hl : l.length + 1 ≤ 4398046511104) (ad : Nat) (hx : W.heap[ad]? = some (.cells (cellsR x).toArray 35 (0, 0))) :
    ∃ v1 w1, (Builtin.append_ #[53, 53] 53 #[v, .slice (some ⟨ad, 0, none⟩) 1 1]).run Try.prog W = .ok v1 w1 ∧ Beside w w1 S v1 (l ++ [x]) ∧ Own w w1 S b st := by
  obtain ⟨v1, w1, hr, hR, hg⟩ := append_log (st := { newS with log := l }) hv x hl ad hx
  have hC : Chg W w1 (fun k => v.ownBlock = some k) := Chg.grown (Chg.refl W _) hg (fun k hk => .inl hk)
  refine ⟨v1, w1, hr, Kd.R_mono hR (fun k hk => hk.elim id (fun hk => ⟨Nat.le_trans h.bel.size hk.1, fun hs => by have := h.1.lt _ hs; omega⟩)), ?_, h.2.1, h.bel.trans (hC.below h.bel.size (fun k hk => (hv.1 k hk).1))⟩
  obtain ⟨vl, vk, vg, m, n, D, h1, hn⟩ := h.1
  exact ⟨vl, vk, vg, m, n, D, h1.chg hC (fun k hs hk => (hv.1 k hk).2 hs), hn⟩
theorem Own.append_new {w W : World} {S : Nat → Prop} {b : Nat} {st : PSite} (h : Own w W S b st) {v : Value} {l : List S35} (hv : Beside w W S v l) (x0 x1 x2 x3 : Int) (hl : l.length + 1 ≤ 4398046511104) :
    ∃ A1 c1 w1, (Builtin.append_ #[53, 53] 53 #[v, .slice (some ⟨W.heap.size, 0, none⟩) 1 1]).run Try.prog (W.alloc (.cells #[.int .i64 x0, .int .i64 x1, .int .u8 x2, .int .i64 x3] 35)) = .ok (.slice A1 (l.length + 1) c1) w1 ∧ Beside w w1 S (.slice A1 (l.length + 1) c1) (l ++ [⟨x0, x1, x2, x3⟩]) ∧ Own w w1 S b st := by
  have hb := below_alloc (Below.refl W.heap.size W) (.cells #[.int .i64 x0, .int .i64 x1, .int .u8 x2, .int .i64 x3] 35)
  obtain ⟨v1, w1, hr, hV, hO⟩ := (h.below hb).append (hv.below hb) ⟨x0, x1, x2, x3⟩ hl W.heap.size (heap_alloc_new W _)
  obtain ⟨A1, c1, rfl⟩ := hV.slice
  rw [List.length_append] at hr hV
  exact ⟨A1, c1, w1, hr, hV, hO⟩
theorem eqA35 (d : Nat) (w : World) (x0 y0 x1 y1 x2 y2 x3 y3 : Int) :
    (Op.equalIn (d + 2) 35 (.agg #[.int .i64 x0, .int .i64 x1, .int .u8 x2, .int .i64 x3]) (.agg #[.int .i64 y0, .int .i64 y1, .int .u8 y2, .int .i64 y3])).run Try.prog w = .ok (x0 == y0 && (x1 == y1 && (x2 == y2 && (x3 == y3)))) w := by
  refine eqA_of Try.underlying35 (by kernel_rfl) ?_
  refine eqf_cons (by rfl) (by go_simp; rfl) (by go_simp; rfl) (by go_simp) ?_
  refine eqf_cons (by rfl) (by go_simp; rfl) (by go_simp; rfl) (by go_simp) ?_
  refine eqf_cons (by rfl) (by go_simp; rfl) (by go_simp; rfl) (by go_simp) ?_
  exact eqf_last (by rfl) (by go_simp; rfl) (by go_simp; rfl) (by go_simp)
attribute [local go_sem high] eqA35
theorem run_log (l : List S36) (k : Nat) (h : k < l.length) : (runS newS (l.take (k + 1))).log = if (doS (runS newS (l.take k)) (toR (rd_T36 l (k : Int)))).2.2 = 0 then (runS newS (l.take k)).log ++ [toR (rd_T36 l (k : Int))] else (runS newS (l.take k)).log := by
  rw [runS_take newS l k h]
  exact doS_log _ _

set_option maxRecDepth 100000 in
set_option maxHeartbeats 8000000 in
theorem SiteLogs_go (A : Option Addr) (c : Nat) (l : List S36) (w : World) (hr : Kd.C k36 w A l.length l) (hc : l.length ≤ c) :
    Calls Try.prog 8 #[.slice A l.length c] w fun e w' => e = .returned (.bool true) ∧ Below w.heap.size w w' := by
  have HAL := Aside0.mk (fun W => alive_calls W)
  have HNW := Aside0.mk (fun W => new_own W)
  have HR := Aside0.mk hr
  clear hr
  go_enter Try.func8, Try.ntmps8
  go_wp2_with (first | (go_at_call 12; with_reducible refine (HAL.out _).mono ?_; rintro e w1 ⟨rfl, hb⟩; have HB1 := Aside0.mk hb; clear hb) | (go_at_call 13; with_reducible refine (HNW.out _).mono ?_; rintro e w2 ⟨b, S0, rfl, hO⟩; have HO := Aside0.mk hO; clear hO))
  go_loopg [4, 5, 6, 7, 8] 120 (fun gg s4 s5 _ _ _ wr => ∃ kk : Nat, ∃ S, s5 = .int .i64 (kk : Int) ∧ Aside0 (kk ≤ 120 ∧ kk ≤ l.length ∧ 120 - kk ≤ gg) ∧ Aside0 (Own w1 wr S b (runS newS (l.take kk))) ∧ Aside0 (Beside w1 wr S s4 (runS newS (l.take kk)).log))
  case atStart => exact ⟨0, S0, rfl, ⟨by omega, Nat.zero_le _, by omega⟩, HO, ⟨Kd.R_nil _ _ _ _ _⟩⟩
  case round =>
    obtain ⟨kk, S, rfl, HK, HO, HV⟩ := hrel
    obtain ⟨A4, c4, rfl⟩ := HV.out.slice
    have HE0 := Aside0.mk (below_then HB1.out HB1.out.size HO.out.bel)
    by_cases hgo : kk < l.length ∧ kk < 120
    · have hlt := hgo.1
      have hlt' : decide ((kk : Int) < (l.length : Int)) = true := decide_eq_true (by omega)
      have h12' : decide ((kk : Int) < 120) = true := decide_eq_true (by omega)
      obtain ⟨g', rfl⟩ : ∃ g', gk = g' + 1 := ⟨gk - 1, by have := HK.out; omega⟩
      obtain ⟨ad, e0, h0, h1, h2, h3⟩ := at_T36 HR.out (kk : Int) (by omega) (by omega)
      cases e0
      rw [Int.toNat_natCast] at h0 h1 h2 h3
      replace h0 := (HE0.out.cell (World.block_lt_of_cell? _ _ h0)).trans h0
      replace h1 := (HE0.out.cell (World.block_lt_of_cell? _ _ h1)).trans h1
      replace h2 := (HE0.out.cell (World.block_lt_of_cell? _ _ h2)).trans h2
      replace h3 := (HE0.out.cell (World.block_lt_of_cell? _ _ h3)).trans h3
      have HSN := Aside0.mk (runS_take newS l kk hlt)
      have HLG := Aside0.mk (run_log l kk hlt)
      have HCN := Aside0.mk (runS_cnt_take l kk (by omega))
      have HCL := Aside0.mk (runS_cnt_take l kk (by omega)).log
      generalize rd_T36 l (kk : Int) = x at h0 h1 h2 h3 HSN HLG
      have HB2 := Aside0.mk (below_alloc (Below.refl wr.heap.size wr) (.cells #[.int .i64 x.f0, .int .i64 x.f1, .int .u8 x.f2, .int .i64 x.f3] 35))
      have HX2 := Aside0.mk (heap_alloc_new wr (.cells #[.int .i64 x.f0, .int .i64 x.f1, .int .u8 x.f2, .int .i64 x.f3] 35))
      have HNS : Aside0 (¬ S wr.heap.size) := ⟨fun h => by have := HO.out.1.lt _ h; omega⟩
      have HO2 := Aside0.mk (HO.out.below HB2.out)
      have HV2 := Aside0.mk (HV.out.below HB2.out)
      have HDO := Aside0.mk (do_own HO2.out (HCN.out.small (by omega)) x.f0 x.f1 x.f2 x.f3)
      rw [show (⟨x.f0, x.f1, x.f2, x.f3⟩ : S35) = toR x from rfl] at HDO
      obtain ⟨d, hd⟩ : ∃ d, doS (runS newS (l.take kk)) (toR x) = d := ⟨_, rfl⟩
      rw [hd] at HDO HSN HLG
      obtain ⟨s1, n1, e1⟩ := d
      simp only at HDO HSN HLG
      clear hd HO HV
      obtain ⟨⟨y4, y5, y6, y7⟩, z4, z5, z6, z7⟩ := four HX2.out
      by_cases he : e1 = 0
      · subst he
        have hlg : (runS newS (l.take kk)).log.length + 1 ≤ 4398046511104 := by have := HCL.out; omega
        have HAPP := Aside0.mk (fun (W : World) (S : Nat → Prop) (hO : Own w1 W S b s1) (hV : Beside w1 W S (.slice A4 (runS newS (l.take kk)).log.length c4) (runS newS (l.take kk)).log) => hO.append_new hV x.f0 x.f1 x.f2 x.f3 hlg)
        have HLG2 : Aside0 ((runS newS (l.take (kk + 1))).log = (runS newS (l.take kk)).log ++ [⟨x.f0, x.f1, x.f2, x.f3⟩]) := ⟨by rw [HLG.out, if_pos rfl]; rfl⟩
        clear hlg HLG
        go_wp2_with (first | (go_at_call 14; with_reducible refine (HDO.out).mono ?_; rintro e w5 ⟨rfl, S2, hO, hS, hC⟩; have HX5 := Aside0.mk ((hC.kp _ (heap_lt HX2.out) HNS.out).trans HX2.out); obtain ⟨⟨v4, v5, v6, v7⟩, u4, u5, u6, u7⟩ := four HX5.out; obtain ⟨A6, c6, w6, hrun, hV6, hO6⟩ := HAPP.out _ _ hO (HV2.out.done hC hS); have HRUN := Aside0.mk hrun; have HV6 := Aside0.mk hV6; have HO6 := Aside0.mk hO6; have HS6 := Aside0.mk hS; clear hrun hV6 hO6 hO hS hC) | ((with_reducible refine gate_builtin (b := .append) (xs := #[.tmp 38, .tmp 40]) rfl ?_); at_builtin; refine wpList_append_is rfl (.tmp 38) (.tmp 40) 53 53 rfl _ _ rfl rfl HRUN.out ?_))
        go_roundg g'
        case measure => have := HK.out; omega
        case rel => exact ⟨kk + 1, S2, by go_num, ⟨by omega, by omega, by have := HK.out; omega⟩, ⟨by rw [HSN.out]; exact HO6.out⟩, ⟨by rw [HLG2.out]; exact HV6.out⟩⟩
      · have q1 : (e1 == 0) = false := by simpa using he
        have HLG2 : Aside0 ((runS newS (l.take (kk + 1))).log = (runS newS (l.take kk)).log) := ⟨by rw [HLG.out, if_neg he]⟩
        clear HLG
        go_wp2_with (go_at_call 14; with_reducible refine (HDO.out).mono ?_; rintro e w5 ⟨rfl, S2, hO, hS, hC⟩; have HV5 := Aside0.mk (HV2.out.done hC hS); have HO5 := Aside0.mk hO; clear hO hS hC)
        go_roundg g'
        case measure => have := HK.out; omega
        case rel => exact ⟨kk + 1, S2, by go_num, ⟨by omega, by omega, by have := HK.out; omega⟩, ⟨by rw [HSN.out]; exact HO5.out⟩, ⟨by rw [HLG2.out]; exact HV5.out⟩⟩
    · have hend : (¬ kk < l.length ∧ decide ((kk : Int) < (l.length : Int)) = false) ∨ (kk < l.length ∧ ¬ kk < 120 ∧ decide ((kk : Int) < (l.length : Int)) = true ∧ decide ((kk : Int) < 120) = false) := by
        by_cases h : kk < l.length
        · exact .inr ⟨h, by omega, decide_eq_true (by omega), decide_eq_false (by omega)⟩
        · exact .inl ⟨h, decide_eq_false (by omega)⟩
      have HLO := Aside0.mk (fun (W : World) (hb : Below wr.heap.size wr W) => log_calls (HO.out.below hb).1 (by have := (runS_cnt_take l kk HK.out.1).log; omega))
      have HV1 := Aside0.mk HV.out.reads
      have HOB := Aside0.mk HO.out.bel
      have HLN := Aside0.mk (runS_cnt_take l kk HK.out.1).log
      generalize (runS newS (l.take kk)).log = L at HLO HV1 HLN
      have HEND : Aside0 (∀ W : World, Below wr.heap.size wr W → Calls Try.prog 21 #[.pointer (some ⟨b, 0, none⟩)] W fun e w' => ∃ A c, e = .returned (.slice A L.length c) ∧ Kd.C k35 w' A L.length L ∧ Below W.heap.size W w') := ⟨fun W hb => (HLO.out W hb).mono (by
        rintro e w4 ⟨v, rfl, hv, hb2⟩
        obtain ⟨A1, c1, rfl⟩ := Kd.R_slice hv
        exact ⟨_, _, rfl, (Kd.R_reads' hv).2.2, hb2⟩)⟩
      have HV2 := Aside0.mk HV1.out.2.2
      clear HLO HO HV HV1
      have hne : ((L.length : Int) != (L.length : Int)) = false := by simp
      clear hgo
      rcases hend with ⟨h1, h2⟩ | ⟨h1, h2, h3, h4⟩
      all_goals
        go_wp2_with (go_at_call 21; with_reducible refine (HEND.out _ (Below.refl _ _)).mono ?_; rintro e w4 ⟨A9, c9, rfl, hC, hb⟩; have HC9 := Aside0.mk hC; have HB9 := Aside0.mk hb; clear hC hb)
        have HV9 := Aside0.mk (Kd.C_below HV2.out HB9.out)
        go_loopg [10, 51] L.length (fun gg _ s51 wr2 => ∃ jj : Nat, s51 = .int .i64 (jj : Int) ∧ Aside0 (jj ≤ L.length ∧ L.length - jj ≤ gg) ∧ Aside0 (Below w4.heap.size w4 wr2))
        case atStart => exact ⟨0, rfl, ⟨by omega, by omega⟩, ⟨Below.refl _ _⟩⟩
        case round =>
          obtain ⟨jj, rfl, HJ, HB⟩ := hrel
          by_cases hlt : jj < L.length
          · obtain ⟨g', rfl⟩ : ∃ g', gk = g' + 1 := ⟨gk - 1, by have := HJ.out; omega⟩
            have hlt' : decide ((jj : Int) < (L.length : Int)) = true := decide_eq_true (by omega)
            obtain ⟨ad1, e1, p0, p1, p2, p3⟩ := at_T35 HC9.out (jj : Int) (by omega) (by omega)
            obtain ⟨ad2, e2, q0, q1, q2, q3⟩ := at_T35 HV9.out (jj : Int) (by omega) (by omega)
            cases e1
            cases e2
            rw [Int.toNat_natCast] at p0 p1 p2 p3 q0 q1 q2 q3
            generalize rd_T35 L (jj : Int) = y at p0 p1 p2 p3 q0 q1 q2 q3
            replace p0 := (HB.out.cell (World.block_lt_of_cell? _ _ p0)).trans p0
            replace p1 := (HB.out.cell (World.block_lt_of_cell? _ _ p1)).trans p1
            replace p2 := (HB.out.cell (World.block_lt_of_cell? _ _ p2)).trans p2
            replace p3 := (HB.out.cell (World.block_lt_of_cell? _ _ p3)).trans p3
            replace q0 := (HB.out.cell (World.block_lt_of_cell? _ _ q0)).trans q0
            replace q1 := (HB.out.cell (World.block_lt_of_cell? _ _ q1)).trans q1
            replace q2 := (HB.out.cell (World.block_lt_of_cell? _ _ q2)).trans q2
            replace q3 := (HB.out.cell (World.block_lt_of_cell? _ _ q3)).trans q3
            go_wp2
            go_region
            all_goals
              go_wp2
              go_roundg g'
              case measure => have := HJ.out; omega
              case rel => exact ⟨jj + 1, by have := HLN.out; rw [show wrap64 ((jj : Int) + 1) = ((jj + 1 : Nat) : Int) from by unfold wrap64; omega], ⟨by omega, by have := HJ.out; omega⟩, ⟨below_drew HB.out⟩⟩
          · obtain rfl : jj = L.length := by have := HJ.out; omega
            have hlt' : decide ((L.length : Int) < (L.length : Int)) = false := decide_eq_false (by omega)
            go_wp2
            go_ret
            exact ⟨rfl, below_then (below_then HE0.out HE0.out.size HB9.out) (below_then HE0.out HE0.out.size HB9.out).size HB.out⟩
end Go.Proofs.Ytolpcfjmhimpeaa.HS
namespace Go.Proofs.Ytolpcfjmhimpeaa.H
open Go.RowKit Go.Proofs.YtolpcfjmhimpeaaW.PrintWords Go.Proofs.YtolpcfjmhimpeaaW.PrintLast Go.Proofs.YtolpcfjmhimpeaaW.PrintMore Go.Proofs.Ytolpcfjmhimpeaa.P
set_option linter.unusedVariables false
theorem SiteLogs_walk (A0 : Option Addr) (c0 : Nat) (l0 : List S36) {w : World} (hr0 : Kd.C k36 w A0 l0.length l0) (hc0 : l0.length ≤ c0) {Q0 : Prop} (hQ0 : Q0) :
    Calls Try.prog 8 #[.slice A0 l0.length c0] w fun e w' => e = .returned (.bool true) ∧ Below w.heap.size w w' := HS.SiteLogs_go A0 c0 l0 w hr0 hc0
end Go.Proofs.Ytolpcfjmhimpeaa.H
