/- What one that runs reads twice is the same: the walk of the law SiteReads, and the plain law beneath it. No condition. -/

import Derived.Test.YtolpcfjmhimpeaaSiT
namespace Go.Proofs.Ytolpcfjmhimpeaa.HS
open Go.RowKit Go.Proofs.YtolpcfjmhimpeaaW.PrintWords Go.Proofs.YtolpcfjmhimpeaaW.PrintLast Go.Proofs.YtolpcfjmhimpeaaW.PrintMore Go.Proofs.Ytolpcfjmhimpeaa.P
open Go.Maps (Keyed)
open Go.ChangeMaps Go.MapKept
set_option linter.unusedVariables false
set_option linter.unusedSimpArgs false

theorem two_memT {l : List S119} (hR : H.RightP l) {e h : S119} (he : e ∈ l) (hh : h ∈ l) (h0 : e.f0 = h.f0) (h1 : e.f1 ≠ h.f1) : e.f2 = false ∧ h.f2 = false := by
  obtain ⟨i, hi, rfl⟩ := List.mem_iff_getElem.1 he
  obtain ⟨j, hj, rfl⟩ := List.mem_iff_getElem.1 hh
  rcases Nat.lt_trichotomy i j with hlt | rfl | hlt
  · exact (List.pairwise_iff_getElem.1 hR.two i j hi hj hlt).2 h0
  · exact absurd rfl h1
  · have := (List.pairwise_iff_getElem.1 hR.two j i hj hi hlt).2 h0.symm
    exact ⟨this.2, this.1⟩
/-- One that runs has read a key, and its number is this. -/
structure Rd (s : PSite) (a key v : Int) (P : PPart) : Prop where
  inv : Inv s
  part : s.parts a = some P
  run : P.st = 0
  hold : ∃ h ∈ s.locks, h.f0 = key ∧ h.f1 = a
  num : getL s.led key = v
theorem Rd.far {s : PSite} {a key v : Int} {P : PPart} (h : Rd s a key v P) {i : Int} (hi : i ≠ a) {p : PPart} (hp : (s.parts i).getD zeroP = p) (h0 : p.st = 0 ∨ p.st = 1) (hl : p.loc = false) : ∀ x ∈ p.adds, x.f0 ≠ key := by
  intro x hx hk
  have := (h.inv.part i).2
  rw [hp] at this
  obtain ⟨e, he, e0, e1, e2⟩ := this h0 hl x hx
  obtain ⟨g, hg, g0, g1⟩ := h.hold
  have := (two_memT h.inv.locks he hg (by omega) (by omega)).1
  rw [e2] at this
  cases this
theorem Rd.more {s : PSite} {l : List S119} {a key : Int} (h : ∃ h ∈ s.locks, h.f0 = key ∧ h.f1 = a) (hm : More s.locks l) : ∃ h ∈ l, h.f0 = key ∧ h.f1 = a := by
  obtain ⟨g, hg, g0, g1⟩ := h
  obtain ⟨g', hg', k0, k1, _⟩ := hm g hg
  exact ⟨g', hg', by omega, by omega⟩
theorem Rd.free {s : PSite} {tx a key : Int} (h : ∃ h ∈ s.locks, h.f0 = key ∧ h.f1 = a) (hne : tx ≠ a) : ∃ h ∈ freeP s.locks tx, h.f0 = key ∧ h.f1 = a := by
  obtain ⟨g, hg, g0, g1⟩ := h
  exact ⟨g, free_mem hg (by omega), g0, g1⟩
theorem upd_ne (f : Int → Option PPart) {i j : Int} (p : PPart) (h : i ≠ j) : upd f i p j = f j := by simp only [upd]; rw [if_neg (fun e => h e.symm)]
theorem Rd.step {s : PSite} {a key v : Int} {P : PPart} (h : Rd s a key v P) (r : S35) (hr : ¬ (r.f1 = a ∧ r.f0 ≠ 2)) (hl : ¬ (r.f0 = 6 ∧ ((s.parts r.f1).getD zeroP).loc = true)) : Rd (doS s r).1 a key v P := by
  by_cases he : (doS s r).2.2 = 0
  · have hI := h.inv.step r
    obtain ⟨h1, _, _, h4, h5⟩ := doS_ok he
    rw [h5] at hI ⊢
    simp only at hI ⊢
    generalize hp : (s.parts r.f1).getD zeroP = p at h4 hI hl ⊢
    suffices hs : (stepS s p r).1.parts a = some P ∧ (∃ h ∈ (stepS s p r).1.locks, h.f0 = key ∧ h.f1 = a) ∧ getL (stepS s p r).1.led key = v from ⟨hI, hs.1, h.run, hs.2.1, hs.2.2⟩
    clear hI h5
    unfold stepS at h4 ⊢
    by_cases k1 : r.f0 = 1
    · rw [if_pos k1]
      have hne : r.f1 ≠ a := fun e => hr ⟨e, by omega⟩
      exact ⟨by simp only; rw [upd_ne _ _ hne]; exact h.part, h.hold, h.num⟩
    · rw [if_neg k1] at h4 ⊢
      by_cases k2 : r.f0 = 2 ∨ r.f0 = 3
      · rw [if_pos k2] at h4 ⊢
        obtain ⟨h0, ht, ⟨j1, j2⟩ | ⟨j1, ja, j2⟩⟩ := accessS_ok k2 h4
        · rw [j2]
          have hf : (r.f0 == 3) = false := by rw [j1]; rfl
          rw [hf] at ht
          exact ⟨h.part, Rd.more h.hold (take_more ht).2.2.1, h.num⟩
        · rw [j2]
          have hne : r.f1 ≠ a := fun e => hr ⟨e, by omega⟩
          have hf : (r.f0 == 3) = true := by rw [j1]; rfl
          rw [hf] at ht
          exact ⟨by simp only; rw [upd_ne _ _ hne]; exact h.part, Rd.more h.hold (take_more ht).2.2.1, h.num⟩
      · rw [if_neg k2] at h4 ⊢
        simp only at h4 ⊢
        have hne : r.f1 ≠ a := fun e => hr ⟨e, by omega⟩
        have hP := putP_law h.inv.led [] narrow_nil
        have hL : ∀ d : List S73, d.any HD.wideB = false → (∀ x ∈ d, x.f0 ≠ key) → getL (putP s.led d) key = v := fun d hd hk => by rw [(putP_law h.inv.led d hd).2 key, ownSum_none hk]; exact h.num
        have h0 := hL [] narrow_nil (fun x hx => by cases hx)
        obtain ⟨hpr, ⟨j1, j2, j3⟩ | ⟨j1, j2, j3⟩ | ⟨j1, j2, j4, j3⟩ | ⟨j1, j2, j3⟩ | ⟨j1, j2, j4, j3⟩⟩ := endS_ok (by omega) h4
        · rw [j3]; exact ⟨by simp only; rw [upd_ne _ _ hne]; exact h.part, h.hold, h0⟩
        · rw [j3]; exact ⟨by simp only; rw [upd_ne _ _ hne]; exact h.part, Rd.free h.hold hne, h0⟩
        · rw [j3]; exact ⟨by simp only; rw [upd_ne _ _ hne]; exact h.part, Rd.free h.hold hne, hL _ (right_el hpr).1 (h.far hne hp (.inr j2) j4)⟩
        · rw [j3]; exact ⟨by simp only; rw [upd_ne _ _ hne]; exact h.part, Rd.free h.hold hne, h0⟩
        · rw [j3]
          have hloc : p.loc = false := by
            cases hq : p.loc with
            | false => rfl
            | true => exact absurd ⟨j1, hq⟩ hl
          refine ⟨by simp only; rw [upd_ne _ _ hne]; exact h.part, Rd.free h.hold hne, ?_⟩
          simp only
          rw [hloc]
          rcases j4 with ⟨j4, j5⟩ | j4
          · rw [if_neg (by rw [j4]; decide), if_neg (by simp)]
            exact hL _ (right_el hpr).1 (h.far hne hp (.inr j5) hloc)
          · rw [if_pos (by rw [j4]; decide)]
            exact h0
  · rw [(doS_err s r he).1]
    exact h
theorem Rd.first {s : PSite} {tx key : Int} (hI : Inv s) (h : (doS s ⟨2, tx, key, 0⟩).2.2 = 0) : ∃ v P, Rd (doS s ⟨2, tx, key, 0⟩).1 tx key v P ∧ (doS s ⟨2, tx, key, 0⟩).2.1 = ownSum v key P.adds ∧ (0 ≤ tx ∧ tx < 1000) := by
  obtain ⟨hx, hi, hp, hk, he⟩ := read_ok h
  have hI2 := hI.step ⟨2, tx, key, 0⟩
  rw [he] at hI2 ⊢
  obtain ⟨P, hP⟩ := Option.isSome_iff_exists.1 hi
  obtain ⟨t1, t2, t3, e, t4, t5, t6, t7⟩ := take_more hk
  refine ⟨_, P, ⟨hI2, hP, by rw [hP] at hp; exact hp, ⟨e, t4, t5, t6⟩, rfl⟩, ?_, hx⟩
  simp only
  rw [hP]
  rfl
theorem Rd.last {s : PSite} {a key v : Int} {P : PPart} (h : Rd s a key v P) (hx : 0 ≤ a ∧ a < 1000) : (doS s ⟨2, a, key, 0⟩).2.2 = 0 ∧ (doS s ⟨2, a, key, 0⟩).2.1 = ownSum v key P.adds := by
  obtain ⟨g, hg, g0, g1⟩ := h.hold
  have hm : H.mayB a key = true := by
    have : H.mayB g.f1 g.f0 = true := h.inv.locks.may g hg
    rw [g0, g1] at this
    exact this
  have ht : (H.takeP s.locks a key false).2 = 0 := by
    refine (H.take_right h.inv.locks hm false ?_).2
    rw [List.any_eq_false]
    intro e he
    unfold H.confl
    by_cases e0 : e.f0 = key
    · by_cases e1 : e.f1 = a
      · simp [e1]
      · have := (two_memT h.inv.locks he hg (by omega) (by omega)).1
        simp [this]
    · simp [e0]
  rw [read_is hx (by rw [h.part]; rfl) (by rw [h.part]; exact h.run) ht]
  refine ⟨rfl, ?_⟩
  simp only
  rw [h.part, h.num]
  rfl

set_option maxRecDepth 100000 in
set_option maxHeartbeats 16000000 in
theorem SiteReads_go (A : Option Addr) (c : Nat) (l : List S36) (A1 : Option Addr) (c1 : Nat) (m : List S36) (x0 key : Int) (w : World) (hr : Kd.C k36 w A l.length l) (hc : l.length ≤ c) (hr1 : Kd.C k36 w A1 m.length m) (hc1 : m.length ≤ c1) (hQ : ∀ y ∈ m, (litI y.f1).wf = true) :
    Calls Try.prog 4 #[.slice A l.length c, .slice A1 m.length c1, .agg #[.int .u8 x0, .int .u8 key]] w fun e w' => e = .returned (.bool true) ∧ Below w.heap.size w w' := by
  have HAL := Aside0.mk (fun W => alive_calls W)
  have HPL := Aside0.mk (fun (W : World) (hb : Below w.heap.size w W) => played_calls A c l W (Kd.C_below hr hb) hc)
  have HCN := Aside0.mk (playS_cnt l)
  have HIV := Aside0.mk (playS_inv l)
  have HRM := Aside0.mk hr1
  have HQ := Aside0.mk hQ
  generalize playS l = st0 at HPL HCN HIV
  obtain ⟨tx, htx⟩ : ∃ t, wrap64 x0 = t := ⟨_, rfl⟩
  have HPU := Aside0.mk (Rd.first (s := st0) (tx := tx) (key := key) HIV.out)
  have HC1 := Aside0.mk (HCN.out.step ⟨2, tx, key, 0⟩)
  clear hr hc hr1 hQ HIV
  go_enter Try.func4, Try.ntmps4
  have HB0 := Aside0.mk (below_alloc (Below.refl w.heap.size w) (.cells #[.int .u8 x0, .int .u8 key] 46))
  have HG0 := Aside0.mk (heap_alloc_new w (.cells #[.int .u8 x0, .int .u8 key] 46))
  go_wp2_with (go_at_call 12; with_reducible refine (HAL.out _).mono ?_; rintro e w1 ⟨rfl, hb⟩; have HB1 := Aside0.mk (below_then HB0.out HB0.out.size hb); have HG1 := Aside0.mk ((hb.block _ (by simp)).trans HG0.out); clear hb)
  go_wp2_with (go_at_call 19; with_reducible refine (HPL.out _ HB1.out).mono ?_; rintro e w2 ⟨b, S, rfl, hO⟩; have HG2 := Aside0.mk (hO.keep HG1.out); have HO2 := Aside0.mk (hO.base HB1.out); clear hO; obtain ⟨y0, y1⟩ := two HG2.out; have HO3 := Aside0.mk (HO2.out.below (below_alloc (Below.refl _ _) (.cells #[.int .i64 2, .int .i64 tx, .int .u8 key, .int .i64 0] 35))); have HG3 := Aside0.mk ((Below.heap_alloc w2 (.cells #[.int .i64 2, .int .i64 tx, .int .u8 key, .int .i64 0] 35) w.heap.size (heap_lt HG2.out)).trans HG2.out); have HR3 := Aside0.mk (heap_alloc_new w2 (.cells #[.int .i64 2, .int .i64 tx, .int .u8 key, .int .i64 0] 35)); obtain ⟨y2, y3⟩ := two HG3.out; obtain ⟨⟨y4, y5, y6, y7⟩, z4, z5, z6, z7⟩ := four HR3.out)
  have HNR : Aside0 (¬ S w2.heap.size) := ⟨fun h => by have := HO2.out.1.lt _ h; omega⟩
  clear y0 y1 y2 y3
  have HD1 := Aside0.mk (do_own HO3.out (small_of HCN.out (by omega)) 2 tx key 0)
  obtain ⟨d1, hd1⟩ : ∃ d, doS st0 ⟨2, tx, key, 0⟩ = d := ⟨_, rfl⟩
  rw [hd1] at HD1 HPU HC1
  obtain ⟨s1, n1, e1⟩ := d1
  simp only at HD1 HPU HC1
  clear hd1
  by_cases he : e1 = 0
  · subst he
    obtain ⟨v, P, hrd, hn1, hx⟩ := HPU.out rfl
    have HRD := Aside0.mk hrd
    have HN1 := Aside0.mk hn1
    have HX := Aside0.mk hx
    clear hrd hn1 hx HPU
    go_wp2_with (go_at_call 14; with_reducible refine (HD1.out).mono ?_; rintro e w3 ⟨rfl, S2, hO, hS, hC⟩; have HO4 := Aside0.mk hO; have HG4 := Aside0.mk ((hC.kp _ (heap_lt HR3.out) HNR.out).trans HR3.out); have HNS4 := Aside0.mk hS; clear hO hS hC)
    have HNR4 : Aside0 (¬ S2 w2.heap.size) := ⟨fun h => (HNS4.out _ h).elim HNR.out (fun h2 => by have := heap_lt HR3.out; omega)⟩
    clear y4 y5 y6 y7 z4 z5 z6 z7
    obtain ⟨gr, hgr⟩ : ∃ g, w2.heap.size = g := ⟨_, rfl⟩
    rw [hgr] at HG4 HNR4 ⊢
    clear HG3 HR3 HO3 HD1 HNR HO2 HG2 hgr HNS4
    go_loopg [11, 12, 13, 14] 120 (fun gg s11 _ _ _ wr => ∃ kk : Nat, ∃ S st, s11 = .int .i64 (kk : Int) ∧ Aside0 (kk ≤ 120 ∧ kk ≤ m.length ∧ 120 - kk ≤ gg) ∧ Aside0 (Own w wr S b st) ∧ Aside0 (Rd st tx key v P) ∧ Aside0 (Cnt (121 + kk) st) ∧ Aside0 (¬ S gr) ∧ Aside0 (wr.heap[gr]? = some (.cells #[.int .i64 2, .int .i64 tx, .int .u8 key, .int .i64 0] 35 (0, 0))))
    case atStart => exact ⟨0, S2, s1, rfl, ⟨by omega, Nat.zero_le _, by omega⟩, HO4, HRD, ⟨HC1.out.mono (by omega)⟩, HNR4, HG4⟩
    case round =>
      obtain ⟨kk, S, st, rfl, HK, HO, HD, HC, HN, HG⟩ := hrel
      have HSM := Aside0.mk (small_of HC.out (by have := HK.out; omega))
      by_cases hgo : kk < m.length ∧ kk < 120
      · have hlt := hgo.1
        have h12 := hgo.2
        have hlt' : decide ((kk : Int) < (m.length : Int)) = true := decide_eq_true (by omega)
        have h12' : decide ((kk : Int) < 120) = true := decide_eq_true (by omega)
        obtain ⟨g', rfl⟩ : ∃ g', gk = g' + 1 := ⟨gk - 1, by have := HK.out; omega⟩
        obtain ⟨ad, e0, h0, h1, h2, h3⟩ := at_T36 HRM.out (kk : Int) (by omega) (by omega)
        cases e0
        rw [Int.toNat_natCast] at h0 h1 h2 h3
        have HXW : Aside0 ((litI (rd_T36 m (kk : Int)).f1).wf = true) := ⟨by rw [rdRR m kk hlt]; exact HQ.out _ (List.getElem_mem hlt)⟩
        generalize rd_T36 m (kk : Int) = x at h0 h1 h2 h3 HXW
        obtain ⟨f0, f1, f2, f3⟩ := x
        simp only at h0 h1 h2 h3 HXW
        replace h0 := (HO.out.bel.cell (World.block_lt_of_cell? _ _ h0)).trans h0
        replace h1 := (HO.out.bel.cell (World.block_lt_of_cell? _ _ h1)).trans h1
        replace h2 := (HO.out.bel.cell (World.block_lt_of_cell? _ _ h2)).trans h2
        replace h3 := (HO.out.bel.cell (World.block_lt_of_cell? _ _ h3)).trans h3
        have HX2 := Aside0.mk (heap_alloc_new wr (.cells #[.int .i64 f0, .int .i64 f1, .int .u8 f2, .int .i64 f3] 36))
        have HB2 := Aside0.mk (below_alloc (Below.refl wr.heap.size wr) (.cells #[.int .i64 f0, .int .i64 f1, .int .u8 f2, .int .i64 f3] 36))
        have HG2 := Aside0.mk ((HB2.out.block _ (heap_lt HG.out)).trans HG.out)
        have HO2 := Aside0.mk (HO.out.below HB2.out)
        have HPA := Aside0.mk (part_own HO2.out HSM.out f1 HXW.out)
        have HDO := Aside0.mk (fun (W : World) hb => do_own (HO2.out.below (W' := W) hb) HSM.out f0 f1 f2 f3)
        have HST := Aside0.mk (HD.out.step ⟨f0, f1, f2, f3⟩)
        have HCS := Aside0.mk (HC.out.step ⟨f0, f1, f2, f3⟩)
        obtain ⟨d, hd⟩ : ∃ d, doS st ⟨f0, f1, f2, f3⟩ = d := ⟨_, rfl⟩
        rw [hd] at HDO HST HCS
        obtain ⟨s9, n9, e9⟩ := d
        simp only at HDO HST HCS
        clear hd
        generalize ((st.parts f1).getD zeroP).loc = loc at HPA HST
        generalize ((st.parts f1).getD zeroP).st = pst at HPA
        generalize (st.parts f1).isSome = ip at HPA
        obtain ⟨⟨y4, y5, y6, y7⟩, z4, z5, z6, z7⟩ := four HX2.out
        have hkk1 : wrap64 ((kk : Int) + 1) = ((kk + 1 : Nat) : Int) := by unfold wrap64; omega
        by_cases ha : f1 = tx
        · have b1 : (f1 == tx) = true := by simpa using ha
          by_cases hk : f0 = 2
          · have b2 : (f0 != 2) = false := by simpa using hk
            have b3 : (f0 == 6) = false := by rw [hk]; rfl
            have HST2 := Aside0.mk (HST.out (by omega) (by rintro ⟨hh, hh2⟩; first | omega | cases hh2))
            clear ha hk
            go_wp2_with (first | (go_at_call 16; with_reducible refine (HPA.out).mono ?_; rintro e w5 ⟨n5, A5, c5, o5, rfl, hb⟩; have HB5 := Aside0.mk (below_alloc hb (.cells #[.int .i64 pst, .slice A5 n5 c5, .bool loc, .int .i64 o5] 40)); have HX5 := Aside0.mk ((HB5.out.block _ (heap_lt HX2.out)).trans HX2.out); have HG5 := Aside0.mk ((HB5.out.block _ (heap_lt HG2.out)).trans HG2.out); have HP5 := Aside0.mk (heap_alloc_new w5 (.cells #[.int .i64 pst, .slice A5 n5 c5, .bool loc, .int .i64 o5] 40)); obtain ⟨⟨v4, v5, v6, v7⟩, u4, u5, u6, u7⟩ := four HX5.out; obtain ⟨⟨t4, t5, t6, t7⟩, r4, r5, r6, r7⟩ := four HG5.out; obtain ⟨⟨q4, q5, q6, q7⟩, p4, p5, p6, p7⟩ := four HP5.out; clear hb) | (go_at_call 14; with_reducible refine (HDO.out _ HB5.out).mono ?_; rintro e w6 ⟨rfl, S6, hO, hS, hC⟩; have HO6 := Aside0.mk hO; have HG6 := Aside0.mk (hC.keep HG5.out HN.out); have HS6 := Aside0.mk hS; clear hO hS hC))
            have HN6 : Aside0 (¬ S6 gr) := ⟨fun h => (HS6.out _ h).elim HN.out (fun h2 => by have := heap_lt HG5.out; omega)⟩
            go_roundg g'
            case measure => have := HK.out; omega
            case rel => exact ⟨kk + 1, S6, s9, by first | rw [hkk1] | go_num | rfl, ⟨by omega, by omega, by have := HK.out; omega⟩, HO6, HST2, ⟨HCS.out.mono (by omega)⟩, HN6, HG6⟩
          · have b2 : (f0 != 2) = true := by simpa using hk
            clear ha hk
            go_wp2_with (first | (go_at_call 16; with_reducible refine (HPA.out).mono ?_; rintro e w5 ⟨n5, A5, c5, o5, rfl, hb⟩; have HB5 := Aside0.mk (below_alloc hb (.cells #[.int .i64 pst, .slice A5 n5 c5, .bool loc, .int .i64 o5] 40)); have HX5 := Aside0.mk ((HB5.out.block _ (heap_lt HX2.out)).trans HX2.out); have HG5 := Aside0.mk ((HB5.out.block _ (heap_lt HG2.out)).trans HG2.out); have HP5 := Aside0.mk (heap_alloc_new w5 (.cells #[.int .i64 pst, .slice A5 n5 c5, .bool loc, .int .i64 o5] 40)); obtain ⟨⟨v4, v5, v6, v7⟩, u4, u5, u6, u7⟩ := four HX5.out; obtain ⟨⟨t4, t5, t6, t7⟩, r4, r5, r6, r7⟩ := four HG5.out; obtain ⟨⟨q4, q5, q6, q7⟩, p4, p5, p6, p7⟩ := four HP5.out; clear hb) | (go_at_call 14; with_reducible refine (HDO.out _ HB5.out).mono ?_; rintro e w6 ⟨rfl, S6, hO, hS, hC⟩; have HO6 := Aside0.mk hO; have HG6 := Aside0.mk (hC.keep HG5.out HN.out); have HS6 := Aside0.mk hS; clear hO hS hC))
            go_roundg g'
            case measure => have := HK.out; omega
            case rel => exact ⟨kk + 1, S, st, by first | rw [hkk1] | go_num | rfl, ⟨by omega, by omega, by have := HK.out; omega⟩, ⟨HO2.out.below HB5.out⟩, HD, ⟨HC.out.mono (by omega)⟩, HN, HG5⟩
        · have b1 : (f1 == tx) = false := by simpa using ha
          by_cases hk : f0 = 6
          · have b3 : (f0 == 6) = true := by simpa using hk
            cases loc with
            | true =>
              clear ha hk
              go_wp2_with (first | (go_at_call 16; with_reducible refine (HPA.out).mono ?_; rintro e w5 ⟨n5, A5, c5, o5, rfl, hb⟩; have HB5 := Aside0.mk (below_alloc hb (.cells #[.int .i64 pst, .slice A5 n5 c5, .bool true, .int .i64 o5] 40)); have HX5 := Aside0.mk ((HB5.out.block _ (heap_lt HX2.out)).trans HX2.out); have HG5 := Aside0.mk ((HB5.out.block _ (heap_lt HG2.out)).trans HG2.out); have HP5 := Aside0.mk (heap_alloc_new w5 (.cells #[.int .i64 pst, .slice A5 n5 c5, .bool true, .int .i64 o5] 40)); obtain ⟨⟨v4, v5, v6, v7⟩, u4, u5, u6, u7⟩ := four HX5.out; obtain ⟨⟨t4, t5, t6, t7⟩, r4, r5, r6, r7⟩ := four HG5.out; obtain ⟨⟨q4, q5, q6, q7⟩, p4, p5, p6, p7⟩ := four HP5.out; clear hb) | (go_at_call 14; with_reducible refine (HDO.out _ HB5.out).mono ?_; rintro e w6 ⟨rfl, S6, hO, hS, hC⟩; have HO6 := Aside0.mk hO; have HG6 := Aside0.mk (hC.keep HG5.out HN.out); have HS6 := Aside0.mk hS; clear hO hS hC))
              go_roundg g'
              case measure => have := HK.out; omega
              case rel => exact ⟨kk + 1, S, st, by first | rw [hkk1] | go_num | rfl, ⟨by omega, by omega, by have := HK.out; omega⟩, ⟨HO2.out.below HB5.out⟩, HD, ⟨HC.out.mono (by omega)⟩, HN, HG5⟩
            | false =>
              have HST2 := Aside0.mk (HST.out (by omega) (by rintro ⟨hh, hh2⟩; first | omega | cases hh2))
              clear ha hk
              go_wp2_with (first | (go_at_call 16; with_reducible refine (HPA.out).mono ?_; rintro e w5 ⟨n5, A5, c5, o5, rfl, hb⟩; have HB5 := Aside0.mk (below_alloc hb (.cells #[.int .i64 pst, .slice A5 n5 c5, .bool false, .int .i64 o5] 40)); have HX5 := Aside0.mk ((HB5.out.block _ (heap_lt HX2.out)).trans HX2.out); have HG5 := Aside0.mk ((HB5.out.block _ (heap_lt HG2.out)).trans HG2.out); have HP5 := Aside0.mk (heap_alloc_new w5 (.cells #[.int .i64 pst, .slice A5 n5 c5, .bool false, .int .i64 o5] 40)); obtain ⟨⟨v4, v5, v6, v7⟩, u4, u5, u6, u7⟩ := four HX5.out; obtain ⟨⟨t4, t5, t6, t7⟩, r4, r5, r6, r7⟩ := four HG5.out; obtain ⟨⟨q4, q5, q6, q7⟩, p4, p5, p6, p7⟩ := four HP5.out; clear hb) | (go_at_call 14; with_reducible refine (HDO.out _ HB5.out).mono ?_; rintro e w6 ⟨rfl, S6, hO, hS, hC⟩; have HO6 := Aside0.mk hO; have HG6 := Aside0.mk (hC.keep HG5.out HN.out); have HS6 := Aside0.mk hS; clear hO hS hC))
              have HN6 : Aside0 (¬ S6 gr) := ⟨fun h => (HS6.out _ h).elim HN.out (fun h2 => by have := heap_lt HG5.out; omega)⟩
              go_roundg g'
              case measure => have := HK.out; omega
              case rel => exact ⟨kk + 1, S6, s9, by first | rw [hkk1] | go_num | rfl, ⟨by omega, by omega, by have := HK.out; omega⟩, HO6, HST2, ⟨HCS.out.mono (by omega)⟩, HN6, HG6⟩
          · have b3 : (f0 == 6) = false := by simpa using hk
            have HST2 := Aside0.mk (HST.out (by omega) (by rintro ⟨hh, hh2⟩; first | omega | cases hh2))
            clear ha hk
            go_wp2_with (first | (go_at_call 16; with_reducible refine (HPA.out).mono ?_; rintro e w5 ⟨n5, A5, c5, o5, rfl, hb⟩; have HB5 := Aside0.mk (below_alloc hb (.cells #[.int .i64 pst, .slice A5 n5 c5, .bool loc, .int .i64 o5] 40)); have HX5 := Aside0.mk ((HB5.out.block _ (heap_lt HX2.out)).trans HX2.out); have HG5 := Aside0.mk ((HB5.out.block _ (heap_lt HG2.out)).trans HG2.out); have HP5 := Aside0.mk (heap_alloc_new w5 (.cells #[.int .i64 pst, .slice A5 n5 c5, .bool loc, .int .i64 o5] 40)); obtain ⟨⟨v4, v5, v6, v7⟩, u4, u5, u6, u7⟩ := four HX5.out; obtain ⟨⟨t4, t5, t6, t7⟩, r4, r5, r6, r7⟩ := four HG5.out; obtain ⟨⟨q4, q5, q6, q7⟩, p4, p5, p6, p7⟩ := four HP5.out; clear hb) | (go_at_call 14; with_reducible refine (HDO.out _ HB5.out).mono ?_; rintro e w6 ⟨rfl, S6, hO, hS, hC⟩; have HO6 := Aside0.mk hO; have HG6 := Aside0.mk (hC.keep HG5.out HN.out); have HS6 := Aside0.mk hS; clear hO hS hC))
            have HN6 : Aside0 (¬ S6 gr) := ⟨fun h => (HS6.out _ h).elim HN.out (fun h2 => by have := heap_lt HG5.out; omega)⟩
            go_roundg g'
            case measure => have := HK.out; omega
            case rel => exact ⟨kk + 1, S6, s9, by first | rw [hkk1] | go_num | rfl, ⟨by omega, by omega, by have := HK.out; omega⟩, HO6, HST2, ⟨HCS.out.mono (by omega)⟩, HN6, HG6⟩
      · have hend : (¬ kk < m.length ∧ decide ((kk : Int) < (m.length : Int)) = false) ∨ (kk < m.length ∧ ¬ kk < 120 ∧ decide ((kk : Int) < (m.length : Int)) = true ∧ decide ((kk : Int) < 120) = false) := by
          by_cases h : kk < m.length
          · exact .inr ⟨h, by omega, decide_eq_true (by omega), decide_eq_false (by omega)⟩
          · exact .inl ⟨h, decide_eq_false (by omega)⟩
        obtain ⟨hl1, hl2⟩ := HD.out.last HX.out
        have HDL := Aside0.mk (do_own HO.out HSM.out 2 tx key 0)
        rw [hl1, hl2, ← HN1.out] at HDL
        obtain ⟨⟨t4, t5, t6, t7⟩, r4, r5, r6, r7⟩ := four HG.out
        clear hl1 hl2 hgo
        rcases hend with ⟨h1, h2⟩ | ⟨h1, h2, h3, h4⟩
        all_goals
          go_wp2_with (go_at_call 14; with_reducible refine (HDL.out).mono ?_; rintro e w6 ⟨rfl, S6, hO, hS, hC⟩; have HB6 := Aside0.mk hO.bel; clear hO hS hC)
          go_ret
          exact ⟨rfl, HB6.out⟩
  · have q2 : (e1 != 0) = true := by simpa using he
    go_wp2_with (go_at_call 14; with_reducible refine (HD1.out).mono ?_; rintro e w3 ⟨rfl, S2, hO, hS, hC⟩; have HB6 := Aside0.mk hO.bel; clear hO hS hC)
    go_ret
    exact ⟨rfl, HB6.out⟩
end Go.Proofs.Ytolpcfjmhimpeaa.HS
namespace Go.Proofs.Ytolpcfjmhimpeaa.H
open Go.RowKit Go.Proofs.YtolpcfjmhimpeaaW.PrintWords Go.Proofs.YtolpcfjmhimpeaaW.PrintLast Go.Proofs.YtolpcfjmhimpeaaW.PrintMore Go.Proofs.Ytolpcfjmhimpeaa.P
set_option linter.unusedVariables false
theorem SiteReads_walk (A0 : Option Addr) (c0 : Nat) (l0 : List S36) {w : World} (hr0 : Kd.C k36 w A0 l0.length l0) (hc0 : l0.length ≤ c0) {Q0 : Prop} (hQ0 : Q0) (A1 : Option Addr) (c1 : Nat) (l1 : List S36) (hr1 : Kd.C k36 w A1 l1.length l1) (hc1 : l1.length ≤ c1) (hQ1 : ∀ y ∈ l1, (Lit.int .i64 (y.f0, y.f1, y.f2, y.f3).1).wf = true ∧ (Lit.int .i64 (y.f0, y.f1, y.f2, y.f3).2.1).wf = true ∧ (Lit.int .u8 (y.f0, y.f1, y.f2, y.f3).2.2.1).wf = true ∧ (Lit.int .i64 (y.f0, y.f1, y.f2, y.f3).2.2.2).wf = true) (x0 x1 : Int) {Q2 : Prop} (hQ2 : Q2) :
    Calls Try.prog 4 #[.slice A0 l0.length c0, .slice A1 l1.length c1, .agg #[.int .u8 x0, .int .u8 x1]] w fun e w' => e = .returned (.bool true) ∧ Below w.heap.size w w' := HS.SiteReads_go A0 c0 l0 A1 c1 l1 x0 x1 w hr0 hc0 hr1 hc1 (fun y hy => (hQ1 y hy).2.1)
end Go.Proofs.Ytolpcfjmhimpeaa.H
