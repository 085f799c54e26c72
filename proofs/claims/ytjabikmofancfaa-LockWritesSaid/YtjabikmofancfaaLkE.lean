
import Derived.Test.YtjabikmofancfaaLkD
namespace Go.Proofs.Ytjabikmofancfaa.H
open Go.RowKit Go.Proofs.YtjabikmofancfaaW.PrintWords Go.Proofs.YtjabikmofancfaaW.PrintLast Go.Proofs.Ytjabikmofancfaa.P
set_option linter.unusedVariables false
set_option linter.unusedSimpArgs false

theorem bt {w W W' : World} (h : Below w.heap.size w W) (k : Below W.heap.size W W') : Below w.heap.size w W' := below_then h h.size k

def mayB (tx key : Int) : Bool := decide (key < 64) && decide (0 ≤ tx) && decide (tx < 1000)
theorem may_is (tx key : Int) : lock_may.f tx key = some (mayB tx key) := by
  unfold lock_may.f mayB
  by_cases h1 : key < 64 <;> by_cases h2 : 0 ≤ tx <;> simp [h1, h2]
theorem may_calls (tx key : Int) (w : World) : Calls Try.prog 19 #[.int .i64 tx, .int .u8 key] w fun e w' => e = .returned (.bool (mayB tx key)) ∧ Below w.heap.size w w' :=
  (lock_may.calls tx key _ w (may_is tx key)).mono fun e w' ⟨he, hd⟩ => ⟨he, hd.below⟩

def pairB (p y : S45) : Bool := !(decide (ordI p y ≥ 0) || p.f0 == y.f0 && (p.f2 || y.f2))
def okAt (l : List S45) (i : Nat) : Bool := mayB (l.getD i z45).f1 (l.getD i z45).f0 && (decide (i = 0) || pairB (l.getD (i - 1) z45) (l.getD i z45))
def right (l : List S45) : Bool := (List.range l.length).all (okAt l)
def rightF (l : List S45) : Option Bool := some (right l)

theorem right_no {l : List S45} {i : Nat} (hi : i < l.length) (h : okAt l i = false) : right l = false := by
  unfold right
  rw [List.all_eq_false]
  exact ⟨i, List.mem_range.2 hi, by rw [h]; simp⟩
theorem right_yes {l : List S45} (h : ∀ i, i < l.length → okAt l i = true) : right l = true := by
  unfold right
  rw [List.all_eq_true]
  exact fun i hi => h i (List.mem_range.1 hi)

set_option maxHeartbeats 4000000 in
theorem right_calls (A0 : Option Addr) (c0 : Nat) (l0 : List (S45)) (r : Bool) (w : World) (hr0 : Kd.C k45 w A0 l0.length l0) (hc0 : l0.length ≤ c0) (h : rightF l0 = some r) :
    Calls Try.prog 15 #[.slice A0 l0.length c0] w fun e w' => e = .returned (.bool r) ∧ Below w.heap.size w w' := by
  have hu := Try.underlying45
  have hbig := hr0.2.1
  have HR := Aside0.mk hr0
  have H := Aside0.mk (show right l0 = r from by unfold rightF at h; injection h)
  clear hr0 hc0 h
  go_enter Try.func15, Try.ntmps15
  go_wp2
  go_loopg [3, 4, 5, 8] l0.length (fun gg _ _ _ s8 wr => ∃ kk : Int, s8 = .int .i64 kk ∧ Aside0 (0 ≤ kk ∧ kk ≤ l0.length ∧ l0.length - kk.toNat ≤ gg) ∧ Aside0 (Below w.heap.size w wr) ∧ Aside0 (∀ j, j < kk.toNat → okAt l0 j = true))
  case atStart => exact ⟨0, rfl, ⟨by omega, by omega, by omega⟩, ⟨Below.refl _ w⟩, ⟨fun j hj => absurd hj (Nat.not_lt_zero _)⟩⟩
  case round =>
    obtain ⟨kk, rfl, HK, BW, AF⟩ := hrel
    have p0 : 0 ≤ kk := HK.out.1
    by_cases hlt : kk < (l0.length : Int)
    · obtain ⟨ad, e0, h0, h1, h2⟩ := at_T45 HR.out kk p0 hlt
      cases e0
      replace h0 := (BW.out.cell (World.block_lt_of_cell? w _ h0)).trans h0
      replace h1 := (BW.out.cell (World.block_lt_of_cell? w _ h1)).trans h1
      replace h2 := (BW.out.cell (World.block_lt_of_cell? w _ h2)).trans h2
      have HO : Aside0 (okAt l0 kk.toNat = (mayB (rd_T45 l0 kk).f1 (rd_T45 l0 kk).f0 && (decide (kk.toNat = 0) || pairB (l0.getD (kk.toNat - 1) z45) (rd_T45 l0 kk)))) := ⟨rfl⟩
      generalize rd_T45 l0 kk = y at h0 h1 h2 HO
      have HL := Aside0.mk hlt
      have cb : decide (kk < (l0.length : Int)) = true := decide_eq_true hlt
      have q0 : (0 ≤ kk) = True := eq_true p0
      have q1 : (kk < (l0.length : Int)) = True := eq_true hlt
      clear hlt p0
      obtain ⟨y0, y1, y2⟩ := y
      have HM := fun W => Aside0.mk (may_calls y1 y0 W)
      cases hm : mayB y1 y0 with
      | false =>
        rw [hm] at HM
        have HN : Aside0 (r = false) := ⟨by rw [← H.out]; exact right_no (i := kk.toNat) (by have := HL.out; have := of_eq_true q0; omega) (by rw [HO.out, hm]; rfl)⟩
        clear hm
        go_wp2_with (go_at_call 19; refine (HM _).out.mono ?_; rintro e w' ⟨rfl, hb'⟩)
        go_ret
        exact ⟨by rw [HN.out]; rfl, bt (by repeat (first | exact BW.out | apply below_alloc)) hb'⟩
      | true =>
        rw [hm] at HM HO
        clear hm
        have hw1 : wrap64 (kk + 1) = kk + 1 := by have := HL.out; have := of_eq_true q0; unfold wrap64; omega
        by_cases hk0 : kk = 0
        · have q3 : (kk == 0) = true := by simpa using hk0
          have HK0 := Aside0.mk hk0
          clear hk0
          go_wp2_with (go_at_call 19; refine (HM _).out.mono ?_; rintro e w' ⟨rfl, hb'⟩; have BW' := Aside0.mk (bt (by repeat (first | exact BW.out | apply below_alloc)) hb'); clear hb')
          go_roundg (l0.length - 1)
          case measure => have := HK.out; have := HK0.out; have := HL.out; omega
          case rel =>
            refine ⟨kk + 1, by first | rfl | (simp [hw1]; done), ⟨by have := HK0.out; omega, by have := HL.out; omega, by have := HK.out; have := HK0.out; omega⟩, BW', ⟨fun j hj => ?_⟩⟩
            obtain rfl : j = 0 := by have := HK0.out; omega
            have := HO.out; rw [show kk.toNat = 0 from by rw [HK0.out]; rfl] at this; simpa using this
        · have hk1 : 0 < kk := by have := of_eq_true q0; omega
          have q3 : (kk == 0) = false := by simpa using hk0
          have hw2 : wrap64 (kk - 1) = kk - 1 := by have := HL.out; unfold wrap64; omega
          have q4 : (0 ≤ kk - 1) = True := eq_true (by omega)
          have q6 : (1 ≤ kk) = True := eq_true (by omega)
          have q7 : (kk < 1) = False := eq_false (by omega)
          have q5 : (kk - 1 < (l0.length : Int)) = True := eq_true (by have := HL.out; omega)
          obtain ⟨ad', e0, g0, g1, g2⟩ := at_T45 HR.out (kk - 1) (by omega) (by have := HL.out; omega)
          cases e0
          have hp : l0.getD (kk.toNat - 1) z45 = rd_T45 l0 (kk - 1) := by unfold rd_T45; congr 1; omega
          rw [hp, show decide (kk.toNat = 0) = false from decide_eq_false (by omega)] at HO
          clear hp
          generalize rd_T45 l0 (kk - 1) = p at g0 g1 g2 HO
          rw [show (kk - 1).toNat = kk.toNat - 1 from by omega] at g0 g1 g2
          have b0 := World.block_lt_of_cell? w _ g0
          have b1 := World.block_lt_of_cell? w _ g1
          have b2 := World.block_lt_of_cell? w _ g2
          have HF := Aside0.mk (fun W (hb : Below w.heap.size w W) => (⟨(hb.cell b0).trans g0, (hb.cell b1).trans g1, (hb.cell b2).trans g2⟩ : _ ∧ _ ∧ _))
          clear g0 g1 g2 b0 b1 b2
          have HK1 := Aside0.mk hk1
          clear hk0 hk1
          obtain ⟨p0, p1, p2⟩ := p
          have HQ := fun W => Aside0.mk (order_calls ⟨p0, p1, p2⟩ ⟨y0, y1, y2⟩ W)
          cases hc : decide (ordI ⟨p0, p1, p2⟩ ⟨y0, y1, y2⟩ ≥ 0) with
          | true =>
            have HN : Aside0 (r = false) := ⟨by rw [← H.out]; exact right_no (i := kk.toNat) (by have := HL.out; have := HK1.out; omega) (by rw [HO.out]; simp [pairB, hc])⟩
            clear HO
            have hcc : decide (0 ≤ ordI ⟨p0, p1, p2⟩ ⟨y0, y1, y2⟩) = true := hc
            go_wp2_with (first
              | (go_at_call 19; refine (HM _).out.mono ?_; rintro e w1 ⟨rfl, hb1⟩; have BW1 := Aside0.mk (bt (by repeat (first | exact BW.out | apply below_alloc)) hb1); have ⟨f0, f1, f2⟩ := HF.out _ BW1.out; have hs1 := hb1.size; have c0' : ∀ o, (w1.alloc o).cell? ⟨wr.heap.size, 0, none⟩ = some (.int .u8 y0) := fun o => ((below_alloc (Below.refl w1.heap.size w1) o).cell (p := ⟨wr.heap.size, 0, none⟩) (by simp at hs1 ⊢; omega)).trans ((hb1.cell (p := ⟨wr.heap.size, 0, none⟩) (by simp)).trans (by go_simp)); have c1' : ∀ o, (w1.alloc o).cell? ⟨wr.heap.size, 1, none⟩ = some (.int .i64 y1) := fun o => ((below_alloc (Below.refl w1.heap.size w1) o).cell (p := ⟨wr.heap.size, 1, none⟩) (by simp at hs1 ⊢; omega)).trans ((hb1.cell (p := ⟨wr.heap.size, 1, none⟩) (by simp)).trans (by go_simp)); have c2' : ∀ o, (w1.alloc o).cell? ⟨wr.heap.size, 2, none⟩ = some (.bool y2) := fun o => ((below_alloc (Below.refl w1.heap.size w1) o).cell (p := ⟨wr.heap.size, 2, none⟩) (by simp at hs1 ⊢; omega)).trans ((hb1.cell (p := ⟨wr.heap.size, 2, none⟩) (by simp)).trans (by go_simp)); clear hb1)
              | (go_at_call 21; refine (HQ _).out.mono ?_; rintro e w2 ⟨rfl, hb2⟩; have BW2 := Aside0.mk (bt (by repeat (first | exact BW1.out | apply below_alloc)) hb2); have d0 : w2.cell? ⟨w1.heap.size, 0, none⟩ = some (.int .u8 p0) := (hb2.cell (p := ⟨w1.heap.size, 0, none⟩) (by simp)).trans (by go_simp); have d2 : w2.cell? ⟨w1.heap.size, 2, none⟩ = some (.bool p2) := (hb2.cell (p := ⟨w1.heap.size, 2, none⟩) (by simp)).trans (by go_simp); have e0 : w2.cell? ⟨wr.heap.size, 0, none⟩ = some (.int .u8 y0) := (hb2.cell (p := ⟨wr.heap.size, 0, none⟩) (by simp at hs1 ⊢; omega)).trans (by go_simp); have e2 : w2.cell? ⟨wr.heap.size, 2, none⟩ = some (.bool y2) := (hb2.cell (p := ⟨wr.heap.size, 2, none⟩) (by simp at hs1 ⊢; omega)).trans (by go_simp); clear hb2))
            go_ret
            exact ⟨by rw [HN.out]; rfl, BW2.out⟩
          | false =>
            have hcc : decide (0 ≤ ordI ⟨p0, p1, p2⟩ ⟨y0, y1, y2⟩) = false := hc
            cases he : (p0 == y0) with
            | false =>
              have HP : Aside0 (okAt l0 kk.toNat = true) := ⟨by rw [HO.out]; simp [pairB, hc, he]⟩
              clear HO
              go_wp2_with (first
                | (go_at_call 19; refine (HM _).out.mono ?_; rintro e w1 ⟨rfl, hb1⟩; have BW1 := Aside0.mk (bt (by repeat (first | exact BW.out | apply below_alloc)) hb1); have ⟨f0, f1, f2⟩ := HF.out _ BW1.out; have hs1 := hb1.size; have c0' : ∀ o, (w1.alloc o).cell? ⟨wr.heap.size, 0, none⟩ = some (.int .u8 y0) := fun o => ((below_alloc (Below.refl w1.heap.size w1) o).cell (p := ⟨wr.heap.size, 0, none⟩) (by simp at hs1 ⊢; omega)).trans ((hb1.cell (p := ⟨wr.heap.size, 0, none⟩) (by simp)).trans (by go_simp)); have c1' : ∀ o, (w1.alloc o).cell? ⟨wr.heap.size, 1, none⟩ = some (.int .i64 y1) := fun o => ((below_alloc (Below.refl w1.heap.size w1) o).cell (p := ⟨wr.heap.size, 1, none⟩) (by simp at hs1 ⊢; omega)).trans ((hb1.cell (p := ⟨wr.heap.size, 1, none⟩) (by simp)).trans (by go_simp)); have c2' : ∀ o, (w1.alloc o).cell? ⟨wr.heap.size, 2, none⟩ = some (.bool y2) := fun o => ((below_alloc (Below.refl w1.heap.size w1) o).cell (p := ⟨wr.heap.size, 2, none⟩) (by simp at hs1 ⊢; omega)).trans ((hb1.cell (p := ⟨wr.heap.size, 2, none⟩) (by simp)).trans (by go_simp)); clear hb1)
                | (go_at_call 21; refine (HQ _).out.mono ?_; rintro e w2 ⟨rfl, hb2⟩; have BW2 := Aside0.mk (bt (by repeat (first | exact BW1.out | apply below_alloc)) hb2); have d0 : w2.cell? ⟨w1.heap.size, 0, none⟩ = some (.int .u8 p0) := (hb2.cell (p := ⟨w1.heap.size, 0, none⟩) (by simp)).trans (by go_simp); have d2 : w2.cell? ⟨w1.heap.size, 2, none⟩ = some (.bool p2) := (hb2.cell (p := ⟨w1.heap.size, 2, none⟩) (by simp)).trans (by go_simp); have e0 : w2.cell? ⟨wr.heap.size, 0, none⟩ = some (.int .u8 y0) := (hb2.cell (p := ⟨wr.heap.size, 0, none⟩) (by simp at hs1 ⊢; omega)).trans (by go_simp); have e2 : w2.cell? ⟨wr.heap.size, 2, none⟩ = some (.bool y2) := (hb2.cell (p := ⟨wr.heap.size, 2, none⟩) (by simp at hs1 ⊢; omega)).trans (by go_simp); clear hb2))
              go_roundg (l0.length - (kk.toNat + 1))
              case measure => have := HK.out; have := HL.out; omega
              case rel =>
                refine ⟨kk + 1, by first | rfl | (simp [hw1]; done), ⟨by have := HK.out; omega, by have := HL.out; omega, by have := HK.out; omega⟩, BW2, ⟨fun j hj => ?_⟩⟩
                by_cases e : j = kk.toNat
                · subst e; exact HP.out
                · exact AF.out j (by omega)
            | true =>
              cases p2 with
              | true =>
                have HN : Aside0 (r = false) := ⟨by rw [← H.out]; exact right_no (i := kk.toNat) (by have := HL.out; have := HK1.out; omega) (by rw [HO.out]; simp [pairB, hc, he])⟩
                clear HO
                go_wp2_with (first
                  | (go_at_call 19; refine (HM _).out.mono ?_; rintro e w1 ⟨rfl, hb1⟩; have BW1 := Aside0.mk (bt (by repeat (first | exact BW.out | apply below_alloc)) hb1); have ⟨f0, f1, f2⟩ := HF.out _ BW1.out; have hs1 := hb1.size; have c0' : ∀ o, (w1.alloc o).cell? ⟨wr.heap.size, 0, none⟩ = some (.int .u8 y0) := fun o => ((below_alloc (Below.refl w1.heap.size w1) o).cell (p := ⟨wr.heap.size, 0, none⟩) (by simp at hs1 ⊢; omega)).trans ((hb1.cell (p := ⟨wr.heap.size, 0, none⟩) (by simp)).trans (by go_simp)); have c1' : ∀ o, (w1.alloc o).cell? ⟨wr.heap.size, 1, none⟩ = some (.int .i64 y1) := fun o => ((below_alloc (Below.refl w1.heap.size w1) o).cell (p := ⟨wr.heap.size, 1, none⟩) (by simp at hs1 ⊢; omega)).trans ((hb1.cell (p := ⟨wr.heap.size, 1, none⟩) (by simp)).trans (by go_simp)); have c2' : ∀ o, (w1.alloc o).cell? ⟨wr.heap.size, 2, none⟩ = some (.bool y2) := fun o => ((below_alloc (Below.refl w1.heap.size w1) o).cell (p := ⟨wr.heap.size, 2, none⟩) (by simp at hs1 ⊢; omega)).trans ((hb1.cell (p := ⟨wr.heap.size, 2, none⟩) (by simp)).trans (by go_simp)); clear hb1)
                  | (go_at_call 21; refine (HQ _).out.mono ?_; rintro e w2 ⟨rfl, hb2⟩; have BW2 := Aside0.mk (bt (by repeat (first | exact BW1.out | apply below_alloc)) hb2); have d0 : w2.cell? ⟨w1.heap.size, 0, none⟩ = some (.int .u8 p0) := (hb2.cell (p := ⟨w1.heap.size, 0, none⟩) (by simp)).trans (by go_simp); have d2 : w2.cell? ⟨w1.heap.size, 2, none⟩ = some (.bool true) := (hb2.cell (p := ⟨w1.heap.size, 2, none⟩) (by simp)).trans (by go_simp); have e0 : w2.cell? ⟨wr.heap.size, 0, none⟩ = some (.int .u8 y0) := (hb2.cell (p := ⟨wr.heap.size, 0, none⟩) (by simp at hs1 ⊢; omega)).trans (by go_simp); have e2 : w2.cell? ⟨wr.heap.size, 2, none⟩ = some (.bool y2) := (hb2.cell (p := ⟨wr.heap.size, 2, none⟩) (by simp at hs1 ⊢; omega)).trans (by go_simp); clear hb2))
                go_ret
                exact ⟨by rw [HN.out]; rfl, BW2.out⟩
              | false =>
                cases y2 with
                | true =>
                  have HN : Aside0 (r = false) := ⟨by rw [← H.out]; exact right_no (i := kk.toNat) (by have := HL.out; have := HK1.out; omega) (by rw [HO.out]; simp [pairB, hc, he])⟩
                  clear HO
                  go_wp2_with (first
                    | (go_at_call 19; refine (HM _).out.mono ?_; rintro e w1 ⟨rfl, hb1⟩; have BW1 := Aside0.mk (bt (by repeat (first | exact BW.out | apply below_alloc)) hb1); have ⟨f0, f1, f2⟩ := HF.out _ BW1.out; have hs1 := hb1.size; have c0' : ∀ o, (w1.alloc o).cell? ⟨wr.heap.size, 0, none⟩ = some (.int .u8 y0) := fun o => ((below_alloc (Below.refl w1.heap.size w1) o).cell (p := ⟨wr.heap.size, 0, none⟩) (by simp at hs1 ⊢; omega)).trans ((hb1.cell (p := ⟨wr.heap.size, 0, none⟩) (by simp)).trans (by go_simp)); have c1' : ∀ o, (w1.alloc o).cell? ⟨wr.heap.size, 1, none⟩ = some (.int .i64 y1) := fun o => ((below_alloc (Below.refl w1.heap.size w1) o).cell (p := ⟨wr.heap.size, 1, none⟩) (by simp at hs1 ⊢; omega)).trans ((hb1.cell (p := ⟨wr.heap.size, 1, none⟩) (by simp)).trans (by go_simp)); have c2' : ∀ o, (w1.alloc o).cell? ⟨wr.heap.size, 2, none⟩ = some (.bool true) := fun o => ((below_alloc (Below.refl w1.heap.size w1) o).cell (p := ⟨wr.heap.size, 2, none⟩) (by simp at hs1 ⊢; omega)).trans ((hb1.cell (p := ⟨wr.heap.size, 2, none⟩) (by simp)).trans (by go_simp)); clear hb1)
                    | (go_at_call 21; refine (HQ _).out.mono ?_; rintro e w2 ⟨rfl, hb2⟩; have BW2 := Aside0.mk (bt (by repeat (first | exact BW1.out | apply below_alloc)) hb2); have d0 : w2.cell? ⟨w1.heap.size, 0, none⟩ = some (.int .u8 p0) := (hb2.cell (p := ⟨w1.heap.size, 0, none⟩) (by simp)).trans (by go_simp); have d2 : w2.cell? ⟨w1.heap.size, 2, none⟩ = some (.bool false) := (hb2.cell (p := ⟨w1.heap.size, 2, none⟩) (by simp)).trans (by go_simp); have e0 : w2.cell? ⟨wr.heap.size, 0, none⟩ = some (.int .u8 y0) := (hb2.cell (p := ⟨wr.heap.size, 0, none⟩) (by simp at hs1 ⊢; omega)).trans (by go_simp); have e2 : w2.cell? ⟨wr.heap.size, 2, none⟩ = some (.bool true) := (hb2.cell (p := ⟨wr.heap.size, 2, none⟩) (by simp at hs1 ⊢; omega)).trans (by go_simp); clear hb2))
                  go_ret
                  exact ⟨by rw [HN.out]; rfl, BW2.out⟩
                | false =>
                  have HP : Aside0 (okAt l0 kk.toNat = true) := ⟨by rw [HO.out]; simp [pairB, hc, he]⟩
                  clear HO
                  go_wp2_with (first
                    | (go_at_call 19; refine (HM _).out.mono ?_; rintro e w1 ⟨rfl, hb1⟩; have BW1 := Aside0.mk (bt (by repeat (first | exact BW.out | apply below_alloc)) hb1); have ⟨f0, f1, f2⟩ := HF.out _ BW1.out; have hs1 := hb1.size; have c0' : ∀ o, (w1.alloc o).cell? ⟨wr.heap.size, 0, none⟩ = some (.int .u8 y0) := fun o => ((below_alloc (Below.refl w1.heap.size w1) o).cell (p := ⟨wr.heap.size, 0, none⟩) (by simp at hs1 ⊢; omega)).trans ((hb1.cell (p := ⟨wr.heap.size, 0, none⟩) (by simp)).trans (by go_simp)); have c1' : ∀ o, (w1.alloc o).cell? ⟨wr.heap.size, 1, none⟩ = some (.int .i64 y1) := fun o => ((below_alloc (Below.refl w1.heap.size w1) o).cell (p := ⟨wr.heap.size, 1, none⟩) (by simp at hs1 ⊢; omega)).trans ((hb1.cell (p := ⟨wr.heap.size, 1, none⟩) (by simp)).trans (by go_simp)); have c2' : ∀ o, (w1.alloc o).cell? ⟨wr.heap.size, 2, none⟩ = some (.bool false) := fun o => ((below_alloc (Below.refl w1.heap.size w1) o).cell (p := ⟨wr.heap.size, 2, none⟩) (by simp at hs1 ⊢; omega)).trans ((hb1.cell (p := ⟨wr.heap.size, 2, none⟩) (by simp)).trans (by go_simp)); clear hb1)
                    | (go_at_call 21; refine (HQ _).out.mono ?_; rintro e w2 ⟨rfl, hb2⟩; have BW2 := Aside0.mk (bt (by repeat (first | exact BW1.out | apply below_alloc)) hb2); have d0 : w2.cell? ⟨w1.heap.size, 0, none⟩ = some (.int .u8 p0) := (hb2.cell (p := ⟨w1.heap.size, 0, none⟩) (by simp)).trans (by go_simp); have d2 : w2.cell? ⟨w1.heap.size, 2, none⟩ = some (.bool false) := (hb2.cell (p := ⟨w1.heap.size, 2, none⟩) (by simp)).trans (by go_simp); have e0 : w2.cell? ⟨wr.heap.size, 0, none⟩ = some (.int .u8 y0) := (hb2.cell (p := ⟨wr.heap.size, 0, none⟩) (by simp at hs1 ⊢; omega)).trans (by go_simp); have e2 : w2.cell? ⟨wr.heap.size, 2, none⟩ = some (.bool false) := (hb2.cell (p := ⟨wr.heap.size, 2, none⟩) (by simp at hs1 ⊢; omega)).trans (by go_simp); clear hb2))
                  go_roundg (l0.length - (kk.toNat + 1))
                  case measure => have := HK.out; have := HL.out; omega
                  case rel =>
                    refine ⟨kk + 1, by first | rfl | (simp [hw1]; done), ⟨by have := HK.out; omega, by have := HL.out; omega, by have := HK.out; omega⟩, BW2, ⟨fun j hj => ?_⟩⟩
                    by_cases e : j = kk.toNat
                    · subst e; exact HP.out
                    · exact AF.out j (by omega)
    · have cb : decide (kk < (l0.length : Int)) = false := decide_eq_false hlt
      have HL := Aside0.mk hlt
      clear hlt p0
      go_wp2
      go_ret
      refine ⟨?_, BW.out⟩
      rw [← H.out, right_yes (fun i hi => AF.out i (by have := HL.out; have := HK.out; omega))]
      rfl
end Go.Proofs.Ytjabikmofancfaa.H
