/- What one that runs has added to nobody else reads or adds to, till it is decided: the walk of the law SiteAlone, and the plain law beneath it. No condition. -/

import Derived.Test.YtolpcfjmhimpeaaSiR
namespace Go.Proofs.Ytolpcfjmhimpeaa.HS
open Go.RowKit Go.Proofs.YtolpcfjmhimpeaaW.PrintWords Go.Proofs.YtolpcfjmhimpeaaW.PrintLast Go.Proofs.YtolpcfjmhimpeaaW.PrintMore Go.Proofs.Ytolpcfjmhimpeaa.P
open Go.Maps (Keyed)
open Go.ChangeMaps Go.MapKept
set_option linter.unusedVariables false
set_option linter.unusedSimpArgs false

/-! The plain law. -/
theorem wlock {l : List S119} {a key : Int} (h : (H.takeP l a key true).2 = 0) : H.RightP (H.takeP l a key true).1 ∧ H.mayB a key = true ∧ ∃ e ∈ (H.takeP l a key true).1, e.f0 = key ∧ e.f1 = a ∧ e.f2 = true := by
  have hR := H.take_rightP h
  obtain ⟨hm, hc⟩ := H.take_ok hR h
  refine ⟨(H.take_right hR hm true hc).1, hm, ?_⟩
  obtain ⟨A, B, hcut, ⟨hh, ht, har⟩ | ⟨y, C, rfl, e0, e1, ht, har, har0⟩⟩ := H.take_cut hR hm true hc
  · rw [ht]; exact ⟨⟨key, a, true⟩, by simp, rfl, rfl, rfl⟩
  · rw [ht]; exact ⟨⟨key, a, y.f2 || true⟩, by simp, rfl, rfl, by simp⟩
theorem take_conf {l : List S119} (hR : H.RightP l) {tx key : Int} {w : Bool} (hm : H.mayB tx key = true) {e : S119} (he : e ∈ l) (h0 : e.f0 = key) (h1 : e.f1 ≠ tx) (h2 : e.f2 = true) : (H.takeP l tx key w).2 = 9 := by
  unfold H.takeP
  rw [if_neg (by rw [(H.right_iff l).2 hR]; simp), if_neg (by rw [hm]; simp), if_pos]
  rw [List.any_eq_true]
  refine ⟨e, he, ?_⟩
  unfold H.confl
  simp [h0, h1, h2]
theorem free_right {l : List S119} (hR : H.RightP l) (tx : Int) : H.RightP (freeP l tx) :=
  ⟨fun h hm => hR.may h (List.mem_filter.1 hm).1, hR.two.sublist List.filter_sublist⟩
theorem two_mem {l : List S119} (hR : H.RightP l) {e h : S119} (he : e ∈ l) (hh : h ∈ l) (h0 : e.f0 = h.f0) (h1 : e.f1 ≠ h.f1) : e.f2 = false ∧ h.f2 = false := by
  obtain ⟨i, hi, rfl⟩ := List.mem_iff_getElem.1 he
  obtain ⟨j, hj, rfl⟩ := List.mem_iff_getElem.1 hh
  rcases Nat.lt_trichotomy i j with hlt | rfl | hlt
  · exact (List.pairwise_iff_getElem.1 hR.two i j hi hj hlt).2 h0
  · exact absurd rfl h1
  · have := (List.pairwise_iff_getElem.1 hR.two j i hj hi hlt).2 h0.symm
    exact ⟨this.2, this.1⟩
theorem free_ok {l : List S119} (hR : H.RightP l) {a b key : Int} (hm : H.mayB b key = true) {e : S119} (he : e ∈ l) (h0 : e.f0 = key) (h1 : e.f1 = a) (h2 : e.f2 = true) : (H.takeP (freeP l a) b key false).2 = 0 := by
  refine (H.take_right (free_right hR a) hm false ?_).2
  rw [List.any_eq_false]
  intro h hh
  have hm2 := (List.mem_filter.1 hh).1
  have hne : h.f1 ≠ a := by
    have := (List.mem_filter.1 hh).2
    simpa [H.ofTx] using this
  unfold H.confl
  by_cases hk : h.f0 = key
  · have := (two_mem hR he hm2 (by omega) (by omega)).1
    rw [h2] at this
    cases this
  · simp [hk]

theorem right_run {p : PPart} (h : p.right = true) (h0 : p.st = 0) : p.loc = false ∧ p.out = 0 := by
  unfold PPart.right HD.prightB at h
  simp [h0] at h
  exact ⟨h.2.2, h.2.1⟩
/-- One that runs and added is let off. -/
theorem abort_is {s : PSite} {tx : Int} (hx : 0 ≤ tx ∧ tx < 1000) (hi : (s.parts tx).isSome = true) (hr : ((s.parts tx).getD zeroP).right = true) (hp : ((s.parts tx).getD zeroP).st = 0) :
    (doS s ⟨6, tx, 0, 2⟩).2.2 = 0 ∧ (doS s ⟨6, tx, 0, 2⟩).1.locks = freeP s.locks tx ∧ ∀ j, j ≠ tx → (doS s ⟨6, tx, 0, 2⟩).1.parts j = s.parts j := by
  obtain ⟨hl, ho⟩ := right_run hr hp
  have hd : decideP ((s.parts tx).getD zeroP) 2 = (⟨3, ((s.parts tx).getD zeroP).adds, ((s.parts tx).getD zeroP).loc, 2⟩, [], 0) := by
    unfold decideP
    rw [if_neg (by rw [hr]; simp), if_neg (by omega), if_neg (by omega), if_pos (by rw [hl]; rfl)]
  have hE : endD ((s.parts tx).getD zeroP) ⟨6, tx, 0, 2⟩ = (⟨3, ((s.parts tx).getD zeroP).adds, ((s.parts tx).getD zeroP).loc, 2⟩, [], 0) := by
    unfold endD
    rw [if_neg (by simp), if_neg (by simp), if_pos (by simp)]
    exact hd
  have hS : stepS s ((s.parts tx).getD zeroP) ⟨6, tx, 0, 2⟩ = ({ s with parts := upd s.parts tx ⟨3, ((s.parts tx).getD zeroP).adds, ((s.parts tx).getD zeroP).loc, 2⟩, led := putP s.led [], locks := freeP s.locks tx }, 0, 0) := by
    unfold stepS
    rw [if_neg (by simp), if_neg (by simp)]
    unfold endS
    rw [hE, if_neg (by simp)]
    simp
  unfold doS
  simp only [hS, hi]
  rw [if_neg (by omega), if_neg (by simp), if_neg (by simp), if_neg (by simp)]
  exact ⟨rfl, rfl, fun j hj => by simp [upd, hj]⟩
/-- What an access answers where the lock is not to be had. -/
theorem access_conf {s : PSite} {k tx key n : Int} (hk : k = 2 ∨ k = 3) (hx : 0 ≤ tx ∧ tx < 1000) (hi : (s.parts tx).isSome = true) (hp : ((s.parts tx).getD zeroP).st = 0) (h : (H.takeP s.locks tx key (k == 3)).2 = 9) :
    doS s ⟨k, tx, key, n⟩ = (s, 0, 9) := by
  have hS : stepS s ((s.parts tx).getD zeroP) ⟨k, tx, key, n⟩ = (s, 0, 9) := by
    unfold stepS
    simp only
    rw [if_neg (by omega), if_pos hk]
    unfold accessS
    simp only
    rw [if_neg (by simpa using hp), if_pos (by rw [h]; decide), h]
  unfold doS
  simp only [hS, hi]
  rw [if_neg (by omega), if_neg (by simp; omega), if_neg (by simp), if_pos (by decide)]
theorem addP_ok {p : PPart} {x : S73} (h : (addP p x).2 = 0) : p.right = true ∧ x.f0 < 64 ∧ p.st = 0 ∧ p.adds.length < 50 := by
  unfold addP at h
  split at h
  · simp at h
  · rename_i h9
    split at h
    · simp at h
    · rename_i h10
      split at h
      · simp at h
      · rename_i h11
        refine ⟨?_, ?_, by simpa using h10, by omega⟩
        · cases hq : p.right with
          | true => rfl
          | false => exact absurd (.inl hq) h9
        · have : ¬ 64 ≤ x.f0 := fun hk => h9 (.inr hk)
          omega
theorem add_okP {s : PSite} {tx key n : Int} (hi : (s.parts tx).isSome = true) (h : (doS s ⟨3, tx, key, n⟩).2.2 = 0) : (addP ((s.parts tx).getD zeroP) ⟨key, n⟩).2 = 0 := by
  have hstep : ∀ p, stepS s p ⟨3, tx, key, n⟩ = accessS s p ⟨3, tx, key, n⟩ := fun p => rfl
  unfold doS at h
  simp only [hstep, hi] at h
  split at h
  · simp at h
  · rw [if_neg (by simp), if_neg (by simp)] at h
    split at h
    · rename_i h5; exact absurd h h5
    · rename_i h5
      unfold accessS at h5
      simp only at h5
      split at h5
      · simp at h5
      · split at h5
        · rename_i h7; exact absurd h5 (by simpa using h7)
        · rename_i h7
          rw [if_pos trivial] at h5
          split at h5
          · rename_i h8; exact absurd h5 (by simpa using h8)
          · rename_i h8
            simpa using h8
theorem right_add {p : PPart} {x : S73} (hr : p.right = true) (h0 : p.st = 0) (hk : x.f0 < 64) (hl : p.adds.length < 50) : PPart.right { p with adds := p.adds ++ [x] } = true := by
  unfold PPart.right HD.prightB at *
  simp only [h0] at hr ⊢
  have hw : HD.wideB x = false := by unfold HD.wideB; exact decide_eq_false (by omega)
  rw [List.any_append, show [x].any HD.wideB = false from by simp [hw], Bool.or_false]
  split at hr
  · cases hr
  · rename_i h1
    rw [if_neg]
    · exact hr
    · simp at h1 ⊢
      exact ⟨by omega, h1.2⟩
theorem SiteAlone_pure {s : PSite} {a b key : Int} (ha : 0 ≤ a ∧ a < 1000) (hb : 0 ≤ b ∧ b < 1000) (hi : (s.parts a).isSome = true) (hj : (s.parts b).isSome = true) (hne : a ≠ b) (hp : ((s.parts a).getD zeroP).st = 0) (hq : ((s.parts b).getD zeroP).st = 0) (h : (doS s ⟨3, a, key, 1⟩).2.2 = 0) :
    ∃ s1 s2, (doS s ⟨3, a, key, 1⟩) = (s1, 0, 0) ∧ doS s1 ⟨2, b, key, 0⟩ = (s1, 0, 9) ∧ doS s1 ⟨3, b, key, 1⟩ = (s1, 0, 9) ∧ (doS s1 ⟨6, a, 0, 2⟩).1 = s2 ∧ (doS s1 ⟨6, a, 0, 2⟩).2.2 = 0 ∧ (doS s2 ⟨2, b, key, 0⟩).2.2 = 0 := by
  obtain ⟨ht, hd⟩ := add_ok ha hi hp h
  obtain ⟨p1, p2, p3, p4⟩ := addP_ok (add_okP hi h)
  have hr := right_add (x := ⟨key, 1⟩) p1 p3 p2 p4
  obtain ⟨hR, hm, e, he, e0, e1, e2⟩ := wlock ht
  have hmb : H.mayB b key = true := by
    unfold H.mayB at *
    simp at hm ⊢
    omega
  have hab := abort_is (s := (doS s ⟨3, a, key, 1⟩).1) ha (by rw [hd]; simp [upd]) (by rw [hd]; simp only [upd, if_pos, Option.getD_some]; exact hr) (by rw [hd]; simp only [upd, if_pos, Option.getD_some]; exact hp)
  rw [hd] at hab
  simp only at hab
  obtain ⟨a1, a2, a3⟩ := hab
  refine ⟨_, _, hd, ?_, ?_, rfl, ?_, ?_⟩
  · exact access_conf (.inl rfl) hb (by simp only [upd]; rw [if_neg (by omega)]; exact hj) (by simp only [upd]; rw [if_neg (by omega)]; exact hq) (take_conf hR hmb he e0 (by omega) e2)
  · exact access_conf (.inr rfl) hb (by simp only [upd]; rw [if_neg (by omega)]; exact hj) (by simp only [upd]; rw [if_neg (by omega)]; exact hq) (take_conf hR hmb he e0 (by omega) e2)
  · exact a1
  · have hpb := a3 b (by omega)
    simp only [upd] at hpb
    rw [if_neg (by omega)] at hpb
    rw [read_is hb (by rw [hpb]; exact hj) (by rw [hpb]; exact hq) (by rw [a2]; exact free_ok hR hmb he e0 e1 e2)]

set_option maxRecDepth 100000 in
set_option maxHeartbeats 8000000 in
theorem SiteAlone_go (A : Option Addr) (c : Nat) (l : List S36) (x0 x1 key : Int) (w : World) (hr : Kd.C k36 w A l.length l) (hc : l.length ≤ c) (h0 : (Lit.int .u8 x0).wf = true) (h1 : (Lit.int .u8 x1).wf = true) :
    Calls Try.prog 6 #[.slice A l.length c, .agg #[.int .u8 x0, .int .u8 x1, .int .u8 key]] w fun e w' => e = .returned (.bool true) ∧ Below w.heap.size w w' := by
  have HAL := Aside0.mk (fun W => alive_calls W)
  have HPL := Aside0.mk (fun (W : World) (hb : Below w.heap.size w W) => played_calls A c l W (Kd.C_below hr hb) hc)
  have HCN := Aside0.mk (playS_cnt l)
  generalize playS l = s0 at HPL HCN
  have ra : 0 ≤ wrap64 x0 ∧ wrap64 x0 < 1000 := by have := wf8 h0; unfold wrap64; omega
  have rb : 0 ≤ wrap64 x1 ∧ wrap64 x1 < 1000 := by have := wf8 h1; unfold wrap64; omega
  clear hr hc
  generalize ha : wrap64 x0 = ta at ra
  generalize hb : wrap64 x1 = tb at rb
  have HRA := Aside0.mk ra
  have HRB := Aside0.mk rb
  have HPU := Aside0.mk (SiteAlone_pure (s := s0) (a := ta) (b := tb) (key := key) ra rb)
  have HSM := Aside0.mk (small_of HCN.out (by omega))
  have HPA := Aside0.mk (fun (S : Nat → Prop) (b : Nat) (w1 W : World) (hO : Own w1 W S b s0) => part_own hO HSM.out ta (litI_wf HRA.out))
  have HPB := Aside0.mk (fun (S : Nat → Prop) (b : Nat) (w1 W : World) (hO : Own w1 W S b s0) => part_own hO HSM.out tb (litI_wf HRB.out))
  have HDA := Aside0.mk (fun (S : Nat → Prop) (b : Nat) (w1 W : World) (hO : Own w1 W S b s0) => do_own hO HSM.out 3 ta key 1)
  have HC1 := Aside0.mk (HCN.out.step ⟨3, ta, key, 1⟩)
  clear ra rb HCN
  obtain ⟨d1, hd1⟩ : ∃ d, doS s0 ⟨3, ta, key, 1⟩ = d := ⟨_, rfl⟩
  rw [hd1] at HPU HDA HC1
  generalize ((s0.parts ta).getD zeroP).st = sa at HPU HPA
  generalize ((s0.parts tb).getD zeroP).st = sb at HPU HPB
  generalize ((s0.parts ta).getD zeroP).loc = la at HPA
  generalize ((s0.parts tb).getD zeroP).loc = lb at HPB
  generalize (s0.parts ta).isSome = ia at HPU HPA
  generalize (s0.parts tb).isSome = ib at HPU HPB
  obtain ⟨s1, n1, e1⟩ := d1
  simp only at HPU HDA HC1
  clear hd1
  go_enter Try.func6, Try.ntmps6
  have HB0 := Aside0.mk (below_alloc (Below.refl w.heap.size w) (.cells #[.int .u8 x0, .int .u8 x1, .int .u8 key] 60))
  have HG0 := Aside0.mk (heap_alloc_new w (.cells #[.int .u8 x0, .int .u8 x1, .int .u8 key] 60))
  go_wp2_with (first | (go_at_call 12; with_reducible refine (HAL.out _).mono ?_; rintro e w1 ⟨rfl, hb⟩; have HB1 := Aside0.mk (below_then HB0.out HB0.out.size hb); have HG1 := Aside0.mk ((hb.block _ (by simp)).trans HG0.out); clear hb) | (go_at_call 19; with_reducible refine (HPL.out _ HB1.out).mono ?_; rintro e w2 ⟨b, S, rfl, hO⟩; have HG2 := Aside0.mk (hO.keep HG1.out); have HO2 := Aside0.mk (hO.base HB1.out); clear hO; obtain ⟨y0, y1, y2⟩ := three HG2.out))
  go_region
  all_goals
    have HO2d := Aside0.mk (HO2.out.below (below_drew (Below.refl _ _)))
    go_wp2_with (go_at_call 16; with_reducible refine (HPA.out _ _ _ _ HO2d.out).mono ?_; rintro e w3 ⟨n1, A1, c1, o1, rfl, hb⟩; have HO3 := Aside0.mk (HO2d.out.below hb); clear hb)
    have HB3 := Aside0.mk (below_alloc (Below.refl w3.heap.size w3) (.cells #[.int .i64 sa, .slice A1 n1 c1, .bool la, .int .i64 o1] 40))
    have HG3 := Aside0.mk (heap_alloc_new w3 (.cells #[.int .i64 sa, .slice A1 n1 c1, .bool la, .int .i64 o1] 40))
    have HO3b := Aside0.mk (HO3.out.below HB3.out)
    have HP2 := Aside0.mk (HPB.out _ _ _ _ HO3b.out)
    cases ia with
    | false =>
      go_wp2_with (go_at_call 16; with_reducible refine (HP2.out).mono ?_; rintro e w4 ⟨n2, A2, c2, o2, rfl, hb⟩; have HO4 := Aside0.mk ((HO3b.out.below hb).below (below_alloc (Below.refl _ _) (.cells #[.int .i64 sb, .slice A2 n2 c2, .bool lb, .int .i64 o2] 40))); have HG4 := Aside0.mk ((Below.heap_alloc w4 (.cells #[.int .i64 sb, .slice A2 n2 c2, .bool lb, .int .i64 o2] 40) _ (Nat.lt_of_lt_of_le (heap_lt HG3.out) hb.size)).trans ((hb.block _ (heap_lt HG3.out)).trans HG3.out)); have HG5 := Aside0.mk (heap_alloc_new w4 (.cells #[.int .i64 sb, .slice A2 n2 c2, .bool lb, .int .i64 o2] 40)); obtain ⟨⟨v0, v1, v2, v3⟩, u0, u1, u2, u3⟩ := four HG4.out; obtain ⟨⟨t0, t1, t2, t3⟩, r0, r1, r2, r3⟩ := four HG5.out; clear hb)
      go_ret
      exact ⟨rfl, HO4.out.bel⟩
    | true =>
      cases ib with
      | false =>
        go_wp2_with (go_at_call 16; with_reducible refine (HP2.out).mono ?_; rintro e w4 ⟨n2, A2, c2, o2, rfl, hb⟩; have HO4 := Aside0.mk ((HO3b.out.below hb).below (below_alloc (Below.refl _ _) (.cells #[.int .i64 sb, .slice A2 n2 c2, .bool lb, .int .i64 o2] 40))); have HG4 := Aside0.mk ((Below.heap_alloc w4 (.cells #[.int .i64 sb, .slice A2 n2 c2, .bool lb, .int .i64 o2] 40) _ (Nat.lt_of_lt_of_le (heap_lt HG3.out) hb.size)).trans ((hb.block _ (heap_lt HG3.out)).trans HG3.out)); have HG5 := Aside0.mk (heap_alloc_new w4 (.cells #[.int .i64 sb, .slice A2 n2 c2, .bool lb, .int .i64 o2] 40)); obtain ⟨⟨v0, v1, v2, v3⟩, u0, u1, u2, u3⟩ := four HG4.out; obtain ⟨⟨t0, t1, t2, t3⟩, r0, r1, r2, r3⟩ := four HG5.out; clear hb)
        go_ret
        exact ⟨rfl, HO4.out.bel⟩
      | true =>
        by_cases hab : ta = tb
        · have q0 : (ta == tb) = true := by simpa using hab
          go_wp2_with (go_at_call 16; with_reducible refine (HP2.out).mono ?_; rintro e w4 ⟨n2, A2, c2, o2, rfl, hb⟩; have HO4 := Aside0.mk ((HO3b.out.below hb).below (below_alloc (Below.refl _ _) (.cells #[.int .i64 sb, .slice A2 n2 c2, .bool lb, .int .i64 o2] 40))); have HG4 := Aside0.mk ((Below.heap_alloc w4 (.cells #[.int .i64 sb, .slice A2 n2 c2, .bool lb, .int .i64 o2] 40) _ (Nat.lt_of_lt_of_le (heap_lt HG3.out) hb.size)).trans ((hb.block _ (heap_lt HG3.out)).trans HG3.out)); have HG5 := Aside0.mk (heap_alloc_new w4 (.cells #[.int .i64 sb, .slice A2 n2 c2, .bool lb, .int .i64 o2] 40)); obtain ⟨⟨v0, v1, v2, v3⟩, u0, u1, u2, u3⟩ := four HG4.out; obtain ⟨⟨t0, t1, t2, t3⟩, r0, r1, r2, r3⟩ := four HG5.out; clear hb)
          go_ret
          exact ⟨rfl, HO4.out.bel⟩
        · have q0 : (ta == tb) = false := by simpa using hab
          by_cases hsa : sa = 0
          · subst hsa
            by_cases hsb : sb = 0
            · subst hsb
              have HPU2 := Aside0.mk (HPU.out rfl rfl hab rfl rfl)
              clear HPU
              go_wp2_with (go_at_call 16; with_reducible refine (HP2.out).mono ?_; rintro e w4 ⟨n2, A2, c2, o2, rfl, hb⟩; have HO4 := Aside0.mk ((HO3b.out.below hb).below (below_alloc (Below.refl _ _) (.cells #[.int .i64 0, .slice A2 n2 c2, .bool lb, .int .i64 o2] 40))); have HG4 := Aside0.mk ((Below.heap_alloc w4 (.cells #[.int .i64 0, .slice A2 n2 c2, .bool lb, .int .i64 o2] 40) _ (Nat.lt_of_lt_of_le (heap_lt HG3.out) hb.size)).trans ((hb.block _ (heap_lt HG3.out)).trans HG3.out)); have HG5 := Aside0.mk (heap_alloc_new w4 (.cells #[.int .i64 0, .slice A2 n2 c2, .bool lb, .int .i64 o2] 40)); obtain ⟨⟨v0, v1, v2, v3⟩, u0, u1, u2, u3⟩ := four HG4.out; obtain ⟨⟨t0, t1, t2, t3⟩, r0, r1, r2, r3⟩ := four HG5.out; clear hb)
              have HDA4 := Aside0.mk (HDA.out _ _ _ _ HO4.out)
              by_cases he : e1 = 0
              · subst he
                obtain ⟨s1', s2, hA, hB, hC, hD, hE, hF⟩ := HPU2.out rfl
                simp only [Prod.mk.injEq] at hA
                obtain ⟨rfl, rfl, _⟩ := hA
                have HS1 := Aside0.mk (small_of HC1.out (by omega))
                have HC2 := Aside0.mk (HC1.out.step ⟨6, ta, 0, 2⟩)
                go_wp2_with (go_at_call 14; with_reducible refine (HDA4.out).mono ?_; rintro e w5 ⟨rfl, S5, hO, hS, hC⟩; have HO5 := Aside0.mk hO; clear hO hS hC)
                have HD5 := Aside0.mk (do_own HO5.out HS1.out 2 tb key 0)
                rw [hB] at HD5
                simp only at HD5
                go_wp2_with (go_at_call 14; with_reducible refine (HD5.out).mono ?_; rintro e w6 ⟨rfl, S6, hO, hS, hC⟩; have HO6 := Aside0.mk hO; clear hO hS hC)
                have HD6 := Aside0.mk (do_own HO6.out HS1.out 3 tb key 1)
                rw [hC] at HD6
                simp only at HD6
                go_wp2_with (go_at_call 14; with_reducible refine (HD6.out).mono ?_; rintro e w7 ⟨rfl, S7, hO, hS, hC⟩; have HO7 := Aside0.mk hO; clear hO hS hC)
                have HD7 := Aside0.mk (do_own HO7.out HS1.out 6 ta 0 2)
                rw [hD, hE] at HD7
                rw [hD] at HC2
                go_wp2_with (go_at_call 14; with_reducible refine (HD7.out).mono ?_; rintro e w8 ⟨rfl, S8, hO, hS, hC⟩; have HO8 := Aside0.mk hO; clear hO hS hC)
                have HD8 := Aside0.mk (do_own HO8.out (small_of HC2.out (by omega)) 2 tb key 0)
                rw [hF] at HD8
                go_wp2_with (go_at_call 14; with_reducible refine (HD8.out).mono ?_; rintro e w9 ⟨rfl, S9, hO, hS, hC⟩; have HO9 := Aside0.mk hO; clear hO hS hC)
                go_ret
                exact ⟨rfl, HO9.out.bel⟩
              · have q5 : (e1 != 0) = true := by simpa using he
                go_wp2_with (go_at_call 14; with_reducible refine (HDA4.out).mono ?_; rintro e w5 ⟨rfl, S5, hO, hS, hC⟩; have HO5 := Aside0.mk hO; clear hO hS hC)
                go_ret
                exact ⟨rfl, HO5.out.bel⟩
            · have q2 : (sb != 0) = true := by simpa using hsb
              go_wp2_with (go_at_call 16; with_reducible refine (HP2.out).mono ?_; rintro e w4 ⟨n2, A2, c2, o2, rfl, hb⟩; have HO4 := Aside0.mk ((HO3b.out.below hb).below (below_alloc (Below.refl _ _) (.cells #[.int .i64 sb, .slice A2 n2 c2, .bool lb, .int .i64 o2] 40))); have HG4 := Aside0.mk ((Below.heap_alloc w4 (.cells #[.int .i64 sb, .slice A2 n2 c2, .bool lb, .int .i64 o2] 40) _ (Nat.lt_of_lt_of_le (heap_lt HG3.out) hb.size)).trans ((hb.block _ (heap_lt HG3.out)).trans HG3.out)); have HG5 := Aside0.mk (heap_alloc_new w4 (.cells #[.int .i64 sb, .slice A2 n2 c2, .bool lb, .int .i64 o2] 40)); obtain ⟨⟨v0, v1, v2, v3⟩, u0, u1, u2, u3⟩ := four HG4.out; obtain ⟨⟨t0, t1, t2, t3⟩, r0, r1, r2, r3⟩ := four HG5.out; clear hb)
              go_ret
              exact ⟨rfl, HO4.out.bel⟩
          · have q1 : (sa != 0) = true := by simpa using hsa
            go_wp2_with (go_at_call 16; with_reducible refine (HP2.out).mono ?_; rintro e w4 ⟨n2, A2, c2, o2, rfl, hb⟩; have HO4 := Aside0.mk ((HO3b.out.below hb).below (below_alloc (Below.refl _ _) (.cells #[.int .i64 sb, .slice A2 n2 c2, .bool lb, .int .i64 o2] 40))); have HG4 := Aside0.mk ((Below.heap_alloc w4 (.cells #[.int .i64 sb, .slice A2 n2 c2, .bool lb, .int .i64 o2] 40) _ (Nat.lt_of_lt_of_le (heap_lt HG3.out) hb.size)).trans ((hb.block _ (heap_lt HG3.out)).trans HG3.out)); have HG5 := Aside0.mk (heap_alloc_new w4 (.cells #[.int .i64 sb, .slice A2 n2 c2, .bool lb, .int .i64 o2] 40)); obtain ⟨⟨v0, v1, v2, v3⟩, u0, u1, u2, u3⟩ := four HG4.out; obtain ⟨⟨t0, t1, t2, t3⟩, r0, r1, r2, r3⟩ := four HG5.out; clear hb)
            go_ret
            exact ⟨rfl, HO4.out.bel⟩
end Go.Proofs.Ytolpcfjmhimpeaa.HS
namespace Go.Proofs.Ytolpcfjmhimpeaa.H
open Go.RowKit Go.Proofs.YtolpcfjmhimpeaaW.PrintWords Go.Proofs.YtolpcfjmhimpeaaW.PrintLast Go.Proofs.YtolpcfjmhimpeaaW.PrintMore Go.Proofs.Ytolpcfjmhimpeaa.P
set_option linter.unusedVariables false
theorem SiteAlone_walk (A0 : Option Addr) (c0 : Nat) (l0 : List S36) {w : World} (hr0 : Kd.C k36 w A0 l0.length l0) (hc0 : l0.length ≤ c0) {Q0 : Prop} (hQ0 : Q0) (x0 x1 x2 : Int) (hQ1 : (Lit.int .u8 (x0, x1, x2).1).wf = true ∧ (Lit.int .u8 (x0, x1, x2).2.1).wf = true ∧ (Lit.int .u8 (x0, x1, x2).2.2).wf = true) :
    Calls Try.prog 6 #[.slice A0 l0.length c0, .agg #[.int .u8 x0, .int .u8 x1, .int .u8 x2]] w fun e w' => e = .returned (.bool true) ∧ Below w.heap.size w w' := HS.SiteAlone_go A0 c0 l0 x0 x1 x2 w hr0 hc0 hQ1.1 hQ1.2.1
end Go.Proofs.Ytolpcfjmhimpeaa.H
