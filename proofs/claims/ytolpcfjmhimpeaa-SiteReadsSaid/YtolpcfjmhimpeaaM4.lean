/- Several texts in one: SiN SiO SiPure SiQ. -/
import Derived.Test.YtolpcfjmhimpeaaM3
/- waystationlaw10.alive. -/

namespace Go.Proofs.Ytolpcfjmhimpeaa.HS
open Go.RowKit Go.Proofs.YtolpcfjmhimpeaaW.PrintWords Go.Proofs.YtolpcfjmhimpeaaW.PrintLast Go.Proofs.YtolpcfjmhimpeaaW.PrintMore Go.Proofs.Ytolpcfjmhimpeaa.P
open Go.Maps (Keyed)
open Go.ChangeMaps Go.MapKept
set_option linter.unusedVariables false
set_option linter.unusedSimpArgs false

def sA0 : PSite := newS
def sA1 : PSite := (doS sA0 ⟨1, 1, 0, 0⟩).1
def sA2 : PSite := (doS sA1 ⟨3, 1, 3, 5⟩).1
def sA3 : PSite := (doS sA2 ⟨1, 2, 0, 0⟩).1
def sA4 : PSite := (doS sA3 ⟨2, 2, 3, 0⟩).1
def sA5 : PSite := (doS sA4 ⟨4, 1, 0, 1⟩).1
def sA6 : PSite := (doS sA5 ⟨5, 1, 0, 0⟩).1
def sA7 : PSite := (doS sA6 ⟨2, 2, 3, 0⟩).1
def sA8 : PSite := (doS sA7 ⟨6, 1, 0, 2⟩).1
theorem cA0 : Cnt 0 sA0 := Cnt.new
theorem cA1 : Cnt 1 sA1 := cA0.step _
theorem cA2 : Cnt 2 sA2 := cA1.step _
theorem cA3 : Cnt 3 sA3 := cA2.step _
theorem cA4 : Cnt 4 sA4 := cA3.step _
theorem cA5 : Cnt 5 sA5 := cA4.step _
theorem cA6 : Cnt 6 sA6 := cA5.step _
theorem cA7 : Cnt 7 sA7 := cA6.step _
theorem cA8 : Cnt 8 sA8 := cA7.step _
theorem eA0 : (doS sA0 ⟨1, 1, 0, 0⟩).2 = (0, 0) := by decide +kernel
theorem eA1 : (doS sA1 ⟨3, 1, 3, 5⟩).2 = (0, 0) := by decide +kernel
theorem eA2 : (doS sA2 ⟨1, 2, 0, 0⟩).2 = (0, 0) := by decide +kernel
theorem eA3 : (doS sA3 ⟨2, 2, 3, 0⟩).2 = (0, 9) := by decide +kernel
theorem eA4 : (doS sA4 ⟨4, 1, 0, 1⟩).2 = (0, 0) := by decide +kernel
theorem eA5 : (doS sA5 ⟨5, 1, 0, 0⟩).2 = (0, 0) := by decide +kernel
theorem eA6 : (doS sA6 ⟨2, 2, 3, 0⟩).2 = (5, 0) := by decide +kernel
theorem eA7 : (doS sA7 ⟨6, 1, 0, 2⟩).2 = (0, 0) := by decide +kernel
def sA : Nat → PSite
  | 0 => sA0
  | 1 => sA1
  | 2 => sA2
  | 3 => sA3
  | 4 => sA4
  | 5 => sA5
  | 6 => sA6
  | 7 => sA7
  | _ => sA8
theorem pA : ((sA8.parts 1).getD zeroP).st = 3 ∧ (sA8.parts 1).isSome = true ∧ getL sA8.led 3 = 0 ∧ sA8.log.length = 7 ∧ ((sA8.parts 1).getD zeroP).adds.length = 1 := by decide +kernel
/-- The site of the test, and its cases. -/
def Own (w W : World) (S : Nat → Prop) (b : Nat) (st : PSite) : Prop := Site W S b st ∧ (∀ k, S k → w.heap.size ≤ k) ∧ Below w.heap.size w W
theorem Own.done {w W W' : World} {S : Nat → Prop} {b : Nat} {st st' : PSite} (h : Own w W S b st) (hd : Done W S b st' W') : ∃ S', Own w W' S' b st' ∧ (∀ k, S' k → S k ∨ W.heap.size ≤ k) ∧ Chg W W' S := by
  obtain ⟨S', h1, h2, h3⟩ := hd
  exact ⟨S', ⟨h1, fun k hk => (h2 k hk).elim (h.2.1 k) (fun h4 => Nat.le_trans h.2.2.size h4), h.2.2.trans (h3.below h.2.2.size h.2.1)⟩, h2, h3⟩
theorem Done.keep {W W' : World} {S : Nat → Prop} {b : Nat} {st' : PSite} (h : Done W S b st' W') {k : Nat} (hk : k < W.heap.size) (hn : ¬ S k) : W'.heap[k]? = W.heap[k]? := by
  obtain ⟨S', h1, h2, h3⟩ := h
  exact h3.kp k hk hn
theorem Site.below {W W' : World} {S : Nat → Prop} {b : Nat} {st : PSite} (h : Site W S b st) (hb : Below W.heap.size W W') : Site W' S b st := by
  obtain ⟨vl, vk, vg, m, n, D, h, hn⟩ := h
  exact ⟨vl, vk, vg, m, n, D, h.below hb, hn⟩
theorem Site.lt {W : World} {S : Nat → Prop} {b : Nat} {st : PSite} (h : Site W S b st) : ∀ k, S k → k < W.heap.size := by
  obtain ⟨vl, vk, vg, m, n, D, h, hn⟩ := h
  exact h.bound
theorem Own.below {w W W' : World} {S : Nat → Prop} {b : Nat} {st : PSite} (h : Own w W S b st) (hb : Below W.heap.size W W') : Own w W' S b st :=
  ⟨h.1.below hb, h.2.1, below_then h.2.2 h.2.2.size hb⟩
theorem new_own (w : World) : Calls Try.prog 13 #[] w fun e w' => ∃ b S, e = .returned (.pointer (some ⟨b, 0, none⟩)) ∧ Own w w' S b newS :=
  (new_calls w).mono fun e w' h => ⟨_, _, h.1, h.2.1, fun k hk => by rcases hk with rfl | rfl <;> omega, h.2.2⟩

set_option maxRecDepth 100000 in
set_option maxHeartbeats 16000000 in
theorem alive_calls (w : World) : Calls Try.prog 12 #[] w fun e w' => e = .returned (.bool true) ∧ Below w.heap.size w w' := by
  have HNW := Aside0.mk (new_own w)
  go_enter Try.func12, Try.ntmps12
  go_wp2_with (go_at_call 13; with_reducible refine (HNW.out).mono ?_; rintro e w1 ⟨b, S0, rfl, hO⟩; have HO := Aside0.mk hO; clear hO)
  have HGB := Aside0.mk (heap_alloc_new w1 (.cells #[.int .i64 1, .int .i64 1, .int .u8 0, .int .i64 0, .int .i64 0, .int .i64 0, .int .i64 3, .int .i64 1, .int .u8 3, .int .i64 5, .int .i64 0, .int .i64 0, .int .i64 1, .int .i64 2, .int .u8 0, .int .i64 0, .int .i64 0, .int .i64 0, .int .i64 2, .int .i64 2, .int .u8 3, .int .i64 0, .int .i64 0, .int .i64 9, .int .i64 4, .int .i64 1, .int .u8 0, .int .i64 1, .int .i64 0, .int .i64 0, .int .i64 5, .int .i64 1, .int .u8 0, .int .i64 0, .int .i64 0, .int .i64 0, .int .i64 2, .int .i64 2, .int .u8 3, .int .i64 0, .int .i64 5, .int .i64 0, .int .i64 6, .int .i64 1, .int .u8 0, .int .i64 2, .int .i64 0, .int .i64 0] 69))
  have HO1 := Aside0.mk (HO.out.below (below_alloc (Below.refl _ _) (.cells #[.int .i64 1, .int .i64 1, .int .u8 0, .int .i64 0, .int .i64 0, .int .i64 0, .int .i64 3, .int .i64 1, .int .u8 3, .int .i64 5, .int .i64 0, .int .i64 0, .int .i64 1, .int .i64 2, .int .u8 0, .int .i64 0, .int .i64 0, .int .i64 0, .int .i64 2, .int .i64 2, .int .u8 3, .int .i64 0, .int .i64 0, .int .i64 9, .int .i64 4, .int .i64 1, .int .u8 0, .int .i64 1, .int .i64 0, .int .i64 0, .int .i64 5, .int .i64 1, .int .u8 0, .int .i64 0, .int .i64 0, .int .i64 0, .int .i64 2, .int .i64 2, .int .u8 3, .int .i64 0, .int .i64 5, .int .i64 0, .int .i64 6, .int .i64 1, .int .u8 0, .int .i64 2, .int .i64 0, .int .i64 0] 69)))
  have HLT := Aside0.mk (HO.out.1.lt)
  obtain ⟨G, hG⟩ : ∃ G, w1.heap.size = G := ⟨_, rfl⟩
  obtain ⟨W1, hW1⟩ : ∃ W1, w1.alloc (.cells #[.int .i64 1, .int .i64 1, .int .u8 0, .int .i64 0, .int .i64 0, .int .i64 0, .int .i64 3, .int .i64 1, .int .u8 3, .int .i64 5, .int .i64 0, .int .i64 0, .int .i64 1, .int .i64 2, .int .u8 0, .int .i64 0, .int .i64 0, .int .i64 0, .int .i64 2, .int .i64 2, .int .u8 3, .int .i64 0, .int .i64 0, .int .i64 9, .int .i64 4, .int .i64 1, .int .u8 0, .int .i64 1, .int .i64 0, .int .i64 0, .int .i64 5, .int .i64 1, .int .u8 0, .int .i64 0, .int .i64 0, .int .i64 0, .int .i64 2, .int .i64 2, .int .u8 3, .int .i64 0, .int .i64 5, .int .i64 0, .int .i64 6, .int .i64 1, .int .u8 0, .int .i64 2, .int .i64 0, .int .i64 0] 69) = W1 := ⟨_, rfl⟩
  rw [hG] at HGB HLT ⊢
  rw [hW1] at HGB HO1 ⊢
  have HGG : Aside0 (∀ k, S0 k → k ≠ G) := ⟨fun k hk e => by have := HLT.out k hk; omega⟩
  clear hG hW1 HLT HO
  go_loopg [3, 4, 5, 29] 8 (fun gg _ _ _ s29 wr => ∃ kk : Nat, ∃ S, s29 = .int .i64 (kk : Int) ∧ Aside0 (kk ≤ 8 ∧ 8 - kk ≤ gg) ∧ Aside0 (Own w wr S b (sA kk)) ∧ Aside0 (∀ k, S k → k ≠ G) ∧ Aside0 (wr.heap[G]? = some (.cells #[.int .i64 1, .int .i64 1, .int .u8 0, .int .i64 0, .int .i64 0, .int .i64 0, .int .i64 3, .int .i64 1, .int .u8 3, .int .i64 5, .int .i64 0, .int .i64 0, .int .i64 1, .int .i64 2, .int .u8 0, .int .i64 0, .int .i64 0, .int .i64 0, .int .i64 2, .int .i64 2, .int .u8 3, .int .i64 0, .int .i64 0, .int .i64 9, .int .i64 4, .int .i64 1, .int .u8 0, .int .i64 1, .int .i64 0, .int .i64 0, .int .i64 5, .int .i64 1, .int .u8 0, .int .i64 0, .int .i64 0, .int .i64 0, .int .i64 2, .int .i64 2, .int .u8 3, .int .i64 0, .int .i64 5, .int .i64 0, .int .i64 6, .int .i64 1, .int .u8 0, .int .i64 2, .int .i64 0, .int .i64 0] 69 (0, 0))))
  case atStart => exact ⟨0, S0, rfl, ⟨by omega, by omega⟩, HO1, HGG, HGB⟩
  case round =>
    obtain ⟨kk, S, rfl, HK, HO, HS, HG⟩ := hrel
    have hkk : kk = 0 ∨ kk = 1 ∨ kk = 2 ∨ kk = 3 ∨ kk = 4 ∨ kk = 5 ∨ kk = 6 ∨ kk = 7 ∨ kk = 8 := by have := HK.out; omega
    rcases hkk with rfl | rfl | rfl | rfl | rfl | rfl | rfl | rfl | rfl
    · obtain ⟨g', rfl⟩ : ∃ g', gk = g' + 1 := ⟨gk - 1, by have := HK.out; omega⟩
      have c0 := (blk_cell HG.out 0).trans rfl
      have c1 := (blk_cell HG.out 1).trans rfl
      have c2 := (blk_cell HG.out 2).trans rfl
      have c3 := (blk_cell HG.out 3).trans rfl
      have c4 := (blk_cell HG.out 4).trans rfl
      have c5 := (blk_cell HG.out 5).trans rfl
      have HO2 := Aside0.mk (HO.out.below (below_alloc (Below.refl _ _) (.cells #[.int .i64 1, .int .i64 1, .int .u8 0, .int .i64 0, .int .i64 0, .int .i64 0] 69)))
      have HDO := Aside0.mk (do_calls HO2.out.1 (cA0.small (by omega)) ⟨1, 1, 0, 0⟩)
      rw [show (doS (sA 0) ⟨1, 1, 0, 0⟩).2 = (0, 0) from eA0] at HDO
      simp only at HDO
      have HBX := Aside0.mk (heap_alloc_new wr (.cells #[.int .i64 1, .int .i64 1, .int .u8 0, .int .i64 0, .int .i64 0, .int .i64 0] 69))
      have HGX := Aside0.mk ((Below.heap_alloc wr (.cells #[.int .i64 1, .int .i64 1, .int .u8 0, .int .i64 0, .int .i64 0, .int .i64 0] 69) G (World.block_lt_of_cell? wr ⟨G, 0, none⟩ ((blk_cell HG.out 0).trans rfl))).trans HG.out)
      have HNS : Aside0 (¬ S wr.heap.size) := ⟨fun h => Nat.lt_irrefl _ (HO.out.1.lt _ h)⟩
      go_wp2_with (go_at_call 14; with_reducible refine (HDO.out).mono ?_; rintro e w5 ⟨rfl, hx⟩; have HX := Aside0.mk (HO2.out.done hx); have HBY := Aside0.mk ((hx.keep (World.block_lt_of_cell? _ ⟨wr.heap.size, 0, none⟩ ((blk_cell HBX.out 0).trans rfl)) HNS.out).trans HBX.out); have y4 := (blk_cell HBY.out 4).trans rfl; have y5 := (blk_cell HBY.out 5).trans rfl; clear hx)
      obtain ⟨S', h1, h2, h3⟩ := HX.out
      go_roundg g'
      case measure => have := HK.out; omega
      case rel => exact ⟨1, S', rfl, ⟨by omega, by have := HK.out; omega⟩, ⟨h1⟩, ⟨fun k hk => (h2 k hk).elim (HS.out k) (fun h4 e5 => by have := World.block_lt_of_cell? _ ⟨G, 0, none⟩ ((blk_cell HGX.out 0).trans rfl); simp only at this; omega)⟩, ⟨(h3.kp G (World.block_lt_of_cell? _ ⟨G, 0, none⟩ ((blk_cell HGX.out 0).trans rfl)) (fun h => HS.out G h rfl)).trans HGX.out⟩⟩
    · obtain ⟨g', rfl⟩ : ∃ g', gk = g' + 1 := ⟨gk - 1, by have := HK.out; omega⟩
      have c0 := (blk_cell HG.out 6).trans rfl
      have c1 := (blk_cell HG.out 7).trans rfl
      have c2 := (blk_cell HG.out 8).trans rfl
      have c3 := (blk_cell HG.out 9).trans rfl
      have c4 := (blk_cell HG.out 10).trans rfl
      have c5 := (blk_cell HG.out 11).trans rfl
      have HO2 := Aside0.mk (HO.out.below (below_alloc (Below.refl _ _) (.cells #[.int .i64 3, .int .i64 1, .int .u8 3, .int .i64 5, .int .i64 0, .int .i64 0] 69)))
      have HDO := Aside0.mk (do_calls HO2.out.1 (cA1.small (by omega)) ⟨3, 1, 3, 5⟩)
      rw [show (doS (sA 1) ⟨3, 1, 3, 5⟩).2 = (0, 0) from eA1] at HDO
      simp only at HDO
      have HBX := Aside0.mk (heap_alloc_new wr (.cells #[.int .i64 3, .int .i64 1, .int .u8 3, .int .i64 5, .int .i64 0, .int .i64 0] 69))
      have HGX := Aside0.mk ((Below.heap_alloc wr (.cells #[.int .i64 3, .int .i64 1, .int .u8 3, .int .i64 5, .int .i64 0, .int .i64 0] 69) G (World.block_lt_of_cell? wr ⟨G, 0, none⟩ ((blk_cell HG.out 0).trans rfl))).trans HG.out)
      have HNS : Aside0 (¬ S wr.heap.size) := ⟨fun h => Nat.lt_irrefl _ (HO.out.1.lt _ h)⟩
      go_wp2_with (go_at_call 14; with_reducible refine (HDO.out).mono ?_; rintro e w5 ⟨rfl, hx⟩; have HX := Aside0.mk (HO2.out.done hx); have HBY := Aside0.mk ((hx.keep (World.block_lt_of_cell? _ ⟨wr.heap.size, 0, none⟩ ((blk_cell HBX.out 0).trans rfl)) HNS.out).trans HBX.out); have y4 := (blk_cell HBY.out 4).trans rfl; have y5 := (blk_cell HBY.out 5).trans rfl; clear hx)
      obtain ⟨S', h1, h2, h3⟩ := HX.out
      go_roundg g'
      case measure => have := HK.out; omega
      case rel => exact ⟨2, S', rfl, ⟨by omega, by have := HK.out; omega⟩, ⟨h1⟩, ⟨fun k hk => (h2 k hk).elim (HS.out k) (fun h4 e5 => by have := World.block_lt_of_cell? _ ⟨G, 0, none⟩ ((blk_cell HGX.out 0).trans rfl); simp only at this; omega)⟩, ⟨(h3.kp G (World.block_lt_of_cell? _ ⟨G, 0, none⟩ ((blk_cell HGX.out 0).trans rfl)) (fun h => HS.out G h rfl)).trans HGX.out⟩⟩
    · obtain ⟨g', rfl⟩ : ∃ g', gk = g' + 1 := ⟨gk - 1, by have := HK.out; omega⟩
      have c0 := (blk_cell HG.out 12).trans rfl
      have c1 := (blk_cell HG.out 13).trans rfl
      have c2 := (blk_cell HG.out 14).trans rfl
      have c3 := (blk_cell HG.out 15).trans rfl
      have c4 := (blk_cell HG.out 16).trans rfl
      have c5 := (blk_cell HG.out 17).trans rfl
      have HO2 := Aside0.mk (HO.out.below (below_alloc (Below.refl _ _) (.cells #[.int .i64 1, .int .i64 2, .int .u8 0, .int .i64 0, .int .i64 0, .int .i64 0] 69)))
      have HDO := Aside0.mk (do_calls HO2.out.1 (cA2.small (by omega)) ⟨1, 2, 0, 0⟩)
      rw [show (doS (sA 2) ⟨1, 2, 0, 0⟩).2 = (0, 0) from eA2] at HDO
      simp only at HDO
      have HBX := Aside0.mk (heap_alloc_new wr (.cells #[.int .i64 1, .int .i64 2, .int .u8 0, .int .i64 0, .int .i64 0, .int .i64 0] 69))
      have HGX := Aside0.mk ((Below.heap_alloc wr (.cells #[.int .i64 1, .int .i64 2, .int .u8 0, .int .i64 0, .int .i64 0, .int .i64 0] 69) G (World.block_lt_of_cell? wr ⟨G, 0, none⟩ ((blk_cell HG.out 0).trans rfl))).trans HG.out)
      have HNS : Aside0 (¬ S wr.heap.size) := ⟨fun h => Nat.lt_irrefl _ (HO.out.1.lt _ h)⟩
      go_wp2_with (go_at_call 14; with_reducible refine (HDO.out).mono ?_; rintro e w5 ⟨rfl, hx⟩; have HX := Aside0.mk (HO2.out.done hx); have HBY := Aside0.mk ((hx.keep (World.block_lt_of_cell? _ ⟨wr.heap.size, 0, none⟩ ((blk_cell HBX.out 0).trans rfl)) HNS.out).trans HBX.out); have y4 := (blk_cell HBY.out 4).trans rfl; have y5 := (blk_cell HBY.out 5).trans rfl; clear hx)
      obtain ⟨S', h1, h2, h3⟩ := HX.out
      go_roundg g'
      case measure => have := HK.out; omega
      case rel => exact ⟨3, S', rfl, ⟨by omega, by have := HK.out; omega⟩, ⟨h1⟩, ⟨fun k hk => (h2 k hk).elim (HS.out k) (fun h4 e5 => by have := World.block_lt_of_cell? _ ⟨G, 0, none⟩ ((blk_cell HGX.out 0).trans rfl); simp only at this; omega)⟩, ⟨(h3.kp G (World.block_lt_of_cell? _ ⟨G, 0, none⟩ ((blk_cell HGX.out 0).trans rfl)) (fun h => HS.out G h rfl)).trans HGX.out⟩⟩
    · obtain ⟨g', rfl⟩ : ∃ g', gk = g' + 1 := ⟨gk - 1, by have := HK.out; omega⟩
      have c0 := (blk_cell HG.out 18).trans rfl
      have c1 := (blk_cell HG.out 19).trans rfl
      have c2 := (blk_cell HG.out 20).trans rfl
      have c3 := (blk_cell HG.out 21).trans rfl
      have c4 := (blk_cell HG.out 22).trans rfl
      have c5 := (blk_cell HG.out 23).trans rfl
      have HO2 := Aside0.mk (HO.out.below (below_alloc (Below.refl _ _) (.cells #[.int .i64 2, .int .i64 2, .int .u8 3, .int .i64 0, .int .i64 0, .int .i64 9] 69)))
      have HDO := Aside0.mk (do_calls HO2.out.1 (cA3.small (by omega)) ⟨2, 2, 3, 0⟩)
      rw [show (doS (sA 3) ⟨2, 2, 3, 0⟩).2 = (0, 9) from eA3] at HDO
      simp only at HDO
      have HBX := Aside0.mk (heap_alloc_new wr (.cells #[.int .i64 2, .int .i64 2, .int .u8 3, .int .i64 0, .int .i64 0, .int .i64 9] 69))
      have HGX := Aside0.mk ((Below.heap_alloc wr (.cells #[.int .i64 2, .int .i64 2, .int .u8 3, .int .i64 0, .int .i64 0, .int .i64 9] 69) G (World.block_lt_of_cell? wr ⟨G, 0, none⟩ ((blk_cell HG.out 0).trans rfl))).trans HG.out)
      have HNS : Aside0 (¬ S wr.heap.size) := ⟨fun h => Nat.lt_irrefl _ (HO.out.1.lt _ h)⟩
      go_wp2_with (go_at_call 14; with_reducible refine (HDO.out).mono ?_; rintro e w5 ⟨rfl, hx⟩; have HX := Aside0.mk (HO2.out.done hx); have HBY := Aside0.mk ((hx.keep (World.block_lt_of_cell? _ ⟨wr.heap.size, 0, none⟩ ((blk_cell HBX.out 0).trans rfl)) HNS.out).trans HBX.out); have y4 := (blk_cell HBY.out 4).trans rfl; have y5 := (blk_cell HBY.out 5).trans rfl; clear hx)
      obtain ⟨S', h1, h2, h3⟩ := HX.out
      go_roundg g'
      case measure => have := HK.out; omega
      case rel => exact ⟨4, S', rfl, ⟨by omega, by have := HK.out; omega⟩, ⟨h1⟩, ⟨fun k hk => (h2 k hk).elim (HS.out k) (fun h4 e5 => by have := World.block_lt_of_cell? _ ⟨G, 0, none⟩ ((blk_cell HGX.out 0).trans rfl); simp only at this; omega)⟩, ⟨(h3.kp G (World.block_lt_of_cell? _ ⟨G, 0, none⟩ ((blk_cell HGX.out 0).trans rfl)) (fun h => HS.out G h rfl)).trans HGX.out⟩⟩
    · obtain ⟨g', rfl⟩ : ∃ g', gk = g' + 1 := ⟨gk - 1, by have := HK.out; omega⟩
      have c0 := (blk_cell HG.out 24).trans rfl
      have c1 := (blk_cell HG.out 25).trans rfl
      have c2 := (blk_cell HG.out 26).trans rfl
      have c3 := (blk_cell HG.out 27).trans rfl
      have c4 := (blk_cell HG.out 28).trans rfl
      have c5 := (blk_cell HG.out 29).trans rfl
      have HO2 := Aside0.mk (HO.out.below (below_alloc (Below.refl _ _) (.cells #[.int .i64 4, .int .i64 1, .int .u8 0, .int .i64 1, .int .i64 0, .int .i64 0] 69)))
      have HDO := Aside0.mk (do_calls HO2.out.1 (cA4.small (by omega)) ⟨4, 1, 0, 1⟩)
      rw [show (doS (sA 4) ⟨4, 1, 0, 1⟩).2 = (0, 0) from eA4] at HDO
      simp only at HDO
      have HBX := Aside0.mk (heap_alloc_new wr (.cells #[.int .i64 4, .int .i64 1, .int .u8 0, .int .i64 1, .int .i64 0, .int .i64 0] 69))
      have HGX := Aside0.mk ((Below.heap_alloc wr (.cells #[.int .i64 4, .int .i64 1, .int .u8 0, .int .i64 1, .int .i64 0, .int .i64 0] 69) G (World.block_lt_of_cell? wr ⟨G, 0, none⟩ ((blk_cell HG.out 0).trans rfl))).trans HG.out)
      have HNS : Aside0 (¬ S wr.heap.size) := ⟨fun h => Nat.lt_irrefl _ (HO.out.1.lt _ h)⟩
      go_wp2_with (go_at_call 14; with_reducible refine (HDO.out).mono ?_; rintro e w5 ⟨rfl, hx⟩; have HX := Aside0.mk (HO2.out.done hx); have HBY := Aside0.mk ((hx.keep (World.block_lt_of_cell? _ ⟨wr.heap.size, 0, none⟩ ((blk_cell HBX.out 0).trans rfl)) HNS.out).trans HBX.out); have y4 := (blk_cell HBY.out 4).trans rfl; have y5 := (blk_cell HBY.out 5).trans rfl; clear hx)
      obtain ⟨S', h1, h2, h3⟩ := HX.out
      go_roundg g'
      case measure => have := HK.out; omega
      case rel => exact ⟨5, S', rfl, ⟨by omega, by have := HK.out; omega⟩, ⟨h1⟩, ⟨fun k hk => (h2 k hk).elim (HS.out k) (fun h4 e5 => by have := World.block_lt_of_cell? _ ⟨G, 0, none⟩ ((blk_cell HGX.out 0).trans rfl); simp only at this; omega)⟩, ⟨(h3.kp G (World.block_lt_of_cell? _ ⟨G, 0, none⟩ ((blk_cell HGX.out 0).trans rfl)) (fun h => HS.out G h rfl)).trans HGX.out⟩⟩
    · obtain ⟨g', rfl⟩ : ∃ g', gk = g' + 1 := ⟨gk - 1, by have := HK.out; omega⟩
      have c0 := (blk_cell HG.out 30).trans rfl
      have c1 := (blk_cell HG.out 31).trans rfl
      have c2 := (blk_cell HG.out 32).trans rfl
      have c3 := (blk_cell HG.out 33).trans rfl
      have c4 := (blk_cell HG.out 34).trans rfl
      have c5 := (blk_cell HG.out 35).trans rfl
      have HO2 := Aside0.mk (HO.out.below (below_alloc (Below.refl _ _) (.cells #[.int .i64 5, .int .i64 1, .int .u8 0, .int .i64 0, .int .i64 0, .int .i64 0] 69)))
      have HDO := Aside0.mk (do_calls HO2.out.1 (cA5.small (by omega)) ⟨5, 1, 0, 0⟩)
      rw [show (doS (sA 5) ⟨5, 1, 0, 0⟩).2 = (0, 0) from eA5] at HDO
      simp only at HDO
      have HBX := Aside0.mk (heap_alloc_new wr (.cells #[.int .i64 5, .int .i64 1, .int .u8 0, .int .i64 0, .int .i64 0, .int .i64 0] 69))
      have HGX := Aside0.mk ((Below.heap_alloc wr (.cells #[.int .i64 5, .int .i64 1, .int .u8 0, .int .i64 0, .int .i64 0, .int .i64 0] 69) G (World.block_lt_of_cell? wr ⟨G, 0, none⟩ ((blk_cell HG.out 0).trans rfl))).trans HG.out)
      have HNS : Aside0 (¬ S wr.heap.size) := ⟨fun h => Nat.lt_irrefl _ (HO.out.1.lt _ h)⟩
      go_wp2_with (go_at_call 14; with_reducible refine (HDO.out).mono ?_; rintro e w5 ⟨rfl, hx⟩; have HX := Aside0.mk (HO2.out.done hx); have HBY := Aside0.mk ((hx.keep (World.block_lt_of_cell? _ ⟨wr.heap.size, 0, none⟩ ((blk_cell HBX.out 0).trans rfl)) HNS.out).trans HBX.out); have y4 := (blk_cell HBY.out 4).trans rfl; have y5 := (blk_cell HBY.out 5).trans rfl; clear hx)
      obtain ⟨S', h1, h2, h3⟩ := HX.out
      go_roundg g'
      case measure => have := HK.out; omega
      case rel => exact ⟨6, S', rfl, ⟨by omega, by have := HK.out; omega⟩, ⟨h1⟩, ⟨fun k hk => (h2 k hk).elim (HS.out k) (fun h4 e5 => by have := World.block_lt_of_cell? _ ⟨G, 0, none⟩ ((blk_cell HGX.out 0).trans rfl); simp only at this; omega)⟩, ⟨(h3.kp G (World.block_lt_of_cell? _ ⟨G, 0, none⟩ ((blk_cell HGX.out 0).trans rfl)) (fun h => HS.out G h rfl)).trans HGX.out⟩⟩
    · obtain ⟨g', rfl⟩ : ∃ g', gk = g' + 1 := ⟨gk - 1, by have := HK.out; omega⟩
      have c0 := (blk_cell HG.out 36).trans rfl
      have c1 := (blk_cell HG.out 37).trans rfl
      have c2 := (blk_cell HG.out 38).trans rfl
      have c3 := (blk_cell HG.out 39).trans rfl
      have c4 := (blk_cell HG.out 40).trans rfl
      have c5 := (blk_cell HG.out 41).trans rfl
      have HO2 := Aside0.mk (HO.out.below (below_alloc (Below.refl _ _) (.cells #[.int .i64 2, .int .i64 2, .int .u8 3, .int .i64 0, .int .i64 5, .int .i64 0] 69)))
      have HDO := Aside0.mk (do_calls HO2.out.1 (cA6.small (by omega)) ⟨2, 2, 3, 0⟩)
      rw [show (doS (sA 6) ⟨2, 2, 3, 0⟩).2 = (5, 0) from eA6] at HDO
      simp only at HDO
      have HBX := Aside0.mk (heap_alloc_new wr (.cells #[.int .i64 2, .int .i64 2, .int .u8 3, .int .i64 0, .int .i64 5, .int .i64 0] 69))
      have HGX := Aside0.mk ((Below.heap_alloc wr (.cells #[.int .i64 2, .int .i64 2, .int .u8 3, .int .i64 0, .int .i64 5, .int .i64 0] 69) G (World.block_lt_of_cell? wr ⟨G, 0, none⟩ ((blk_cell HG.out 0).trans rfl))).trans HG.out)
      have HNS : Aside0 (¬ S wr.heap.size) := ⟨fun h => Nat.lt_irrefl _ (HO.out.1.lt _ h)⟩
      go_wp2_with (go_at_call 14; with_reducible refine (HDO.out).mono ?_; rintro e w5 ⟨rfl, hx⟩; have HX := Aside0.mk (HO2.out.done hx); have HBY := Aside0.mk ((hx.keep (World.block_lt_of_cell? _ ⟨wr.heap.size, 0, none⟩ ((blk_cell HBX.out 0).trans rfl)) HNS.out).trans HBX.out); have y4 := (blk_cell HBY.out 4).trans rfl; have y5 := (blk_cell HBY.out 5).trans rfl; clear hx)
      obtain ⟨S', h1, h2, h3⟩ := HX.out
      go_roundg g'
      case measure => have := HK.out; omega
      case rel => exact ⟨7, S', rfl, ⟨by omega, by have := HK.out; omega⟩, ⟨h1⟩, ⟨fun k hk => (h2 k hk).elim (HS.out k) (fun h4 e5 => by have := World.block_lt_of_cell? _ ⟨G, 0, none⟩ ((blk_cell HGX.out 0).trans rfl); simp only at this; omega)⟩, ⟨(h3.kp G (World.block_lt_of_cell? _ ⟨G, 0, none⟩ ((blk_cell HGX.out 0).trans rfl)) (fun h => HS.out G h rfl)).trans HGX.out⟩⟩
    · obtain ⟨g', rfl⟩ : ∃ g', gk = g' + 1 := ⟨gk - 1, by have := HK.out; omega⟩
      have c0 := (blk_cell HG.out 42).trans rfl
      have c1 := (blk_cell HG.out 43).trans rfl
      have c2 := (blk_cell HG.out 44).trans rfl
      have c3 := (blk_cell HG.out 45).trans rfl
      have c4 := (blk_cell HG.out 46).trans rfl
      have c5 := (blk_cell HG.out 47).trans rfl
      have HO2 := Aside0.mk (HO.out.below (below_alloc (Below.refl _ _) (.cells #[.int .i64 6, .int .i64 1, .int .u8 0, .int .i64 2, .int .i64 0, .int .i64 0] 69)))
      have HDO := Aside0.mk (do_calls HO2.out.1 (cA7.small (by omega)) ⟨6, 1, 0, 2⟩)
      rw [show (doS (sA 7) ⟨6, 1, 0, 2⟩).2 = (0, 0) from eA7] at HDO
      simp only at HDO
      have HBX := Aside0.mk (heap_alloc_new wr (.cells #[.int .i64 6, .int .i64 1, .int .u8 0, .int .i64 2, .int .i64 0, .int .i64 0] 69))
      have HGX := Aside0.mk ((Below.heap_alloc wr (.cells #[.int .i64 6, .int .i64 1, .int .u8 0, .int .i64 2, .int .i64 0, .int .i64 0] 69) G (World.block_lt_of_cell? wr ⟨G, 0, none⟩ ((blk_cell HG.out 0).trans rfl))).trans HG.out)
      have HNS : Aside0 (¬ S wr.heap.size) := ⟨fun h => Nat.lt_irrefl _ (HO.out.1.lt _ h)⟩
      go_wp2_with (go_at_call 14; with_reducible refine (HDO.out).mono ?_; rintro e w5 ⟨rfl, hx⟩; have HX := Aside0.mk (HO2.out.done hx); have HBY := Aside0.mk ((hx.keep (World.block_lt_of_cell? _ ⟨wr.heap.size, 0, none⟩ ((blk_cell HBX.out 0).trans rfl)) HNS.out).trans HBX.out); have y4 := (blk_cell HBY.out 4).trans rfl; have y5 := (blk_cell HBY.out 5).trans rfl; clear hx)
      obtain ⟨S', h1, h2, h3⟩ := HX.out
      go_roundg g'
      case measure => have := HK.out; omega
      case rel => exact ⟨8, S', rfl, ⟨by omega, by have := HK.out; omega⟩, ⟨h1⟩, ⟨fun k hk => (h2 k hk).elim (HS.out k) (fun h4 e5 => by have := World.block_lt_of_cell? _ ⟨G, 0, none⟩ ((blk_cell HGX.out 0).trans rfl); simp only at this; omega)⟩, ⟨(h3.kp G (World.block_lt_of_cell? _ ⟨G, 0, none⟩ ((blk_cell HGX.out 0).trans rfl)) (fun h => HS.out G h rfl)).trans HGX.out⟩⟩
    · have HPA := Aside0.mk pA
      have HP1 := Aside0.mk (part_calls HO.out.1 1 (by decide) (by have := HPA.out.2.2.2.2; show ((sA8.parts 1).getD zeroP).adds.length ≤ 1000000000; omega))
      rw [show sA 8 = sA8 from rfl] at HO HP1
      rw [HPA.out.1, HPA.out.2.1] at HP1
      generalize (sA8.parts 1).getD zeroP = p at HP1
      have HPB : Aside0 (Calls Try.prog 16 #[.pointer (some ⟨b, 0, none⟩), .int .i64 1] wr fun e w' => ∃ n A c l o, e = .returned (.tuple #[.agg #[.int .i64 3, .slice A n c, .bool l, .int .i64 o], .bool true]) ∧ Below wr.heap.size wr w') := ⟨HP1.out.mono (by
        rintro e w2 ⟨v, rfl, hv, hb⟩
        obtain ⟨A1, c1, rfl⟩ := Kd.R_slice hv
        exact ⟨_, _, _, _, _, rfl, hb⟩)⟩
      clear HP1
      go_wp2_with (go_at_call 16; with_reducible refine (HPB.out).mono ?_; rintro e w2 ⟨n1, A1, c1, l1, o1, rfl, hb⟩; have HB2 := Aside0.mk hb; clear hb)
      have HO2 := Aside0.mk (HO.out.below HB2.out)
      have HGet := Aside0.mk (fun (W : World) (hb : Below w2.heap.size w2 W) => get_calls (HO2.out.1.below hb) 3 (by have := cA8.led; omega))
      have HLog : Aside0 (∀ W : World, Below w2.heap.size w2 W → Calls Try.prog 21 #[.pointer (some ⟨b, 0, none⟩)] W fun e w' => ∃ A c, e = .returned (.slice A 7 c) ∧ Below W.heap.size W w') := ⟨fun W hb => (log_calls (HO2.out.1.below hb) (by have := cA8.log; omega)).mono (by
        rintro e w4 ⟨v, rfl, hv, hb2⟩
        obtain ⟨A1, c1, rfl⟩ := Kd.R_slice hv
        rw [HPA.out.2.2.2.1]
        exact ⟨_, _, rfl, hb2⟩)⟩
      rw [HPA.out.2.2.1] at HGet
      have K1 := Aside0.mk (heap_alloc_new w2 (.cells #[.int .i64 3, .slice A1 n1 c1, .bool l1, .int .i64 o1] 40))
      have KB := Aside0.mk (below_alloc (Below.refl w2.heap.size w2) (.cells #[.int .i64 3, .slice A1 n1 c1, .bool l1, .int .i64 o1] 40))
      go_wp2_with (first | (go_at_call 20; with_reducible refine (HGet.out _ KB.out).mono ?_; rintro e w3 ⟨rfl, hb⟩; have L1 := Aside0.mk ((hb.block _ (World.block_lt_of_cell? _ _ (four K1.out).1.1)).trans K1.out); obtain ⟨⟨y0, y1, y2, y3⟩, z0, z1, z2, z3⟩ := four L1.out; have HB3 := Aside0.mk (below_then KB.out KB.out.size hb); clear hb) | (go_at_call 21; with_reducible refine (HLog.out _ HB3.out).mono ?_; rintro e w4 ⟨A4, c4, rfl, hb⟩; have HB4 := Aside0.mk (below_then HB3.out HB3.out.size hb); clear hb))
      go_ret
      exact ⟨rfl, below_then HO2.out.2.2 HO2.out.2.2.size HB4.out⟩
end Go.Proofs.Ytolpcfjmhimpeaa.HS

/- waystationlaw10.played. -/

namespace Go.Proofs.Ytolpcfjmhimpeaa.HS
open Go.RowKit Go.Proofs.YtolpcfjmhimpeaaW.PrintWords Go.Proofs.YtolpcfjmhimpeaaW.PrintLast Go.Proofs.YtolpcfjmhimpeaaW.PrintMore Go.Proofs.Ytolpcfjmhimpeaa.P
open Go.Maps (Keyed)
open Go.ChangeMaps Go.MapKept
set_option linter.unusedVariables false
set_option linter.unusedSimpArgs false

def toR (r : S36) : S35 := ⟨r.f0, r.f1, r.f2, r.f3⟩
/-- Calls, one by one. -/
def runS (s : PSite) (l : List S36) : PSite := l.foldl (fun s r => (doS s (toR r)).1) s
def playS (l : List S36) : PSite := runS newS (l.take 120)
theorem rdRR (l : List S36) (i : Nat) (h : i < l.length) : rd_T36 l (i : Int) = l[i] := by unfold rd_T36; rw [Int.toNat_natCast, List.getD_eq_getElem?_getD, List.getElem?_eq_getElem h]; rfl
theorem runS_snoc (s : PSite) (l : List S36) (x : S36) : runS s (l ++ [x]) = (doS (runS s l) (toR x)).1 := by simp [runS]
theorem runS_take (s : PSite) (l : List S36) (k : Nat) (h : k < l.length) : runS s (l.take (k + 1)) = (doS (runS s (l.take k)) (toR (rd_T36 l (k : Int)))).1 := by
  rw [List.take_succ_eq_append_getElem h, runS_snoc, rdRR l k h]
theorem runS_cnt {N : Nat} {s : PSite} (h : Cnt N s) (l : List S36) : Cnt (N + l.length) (runS s l) := by
  induction l generalizing N s with
  | nil => exact h
  | cons x l ih =>
    have := ih (h.step (toR x))
    rw [List.length_cons, show N + (l.length + 1) = N + 1 + l.length from by omega]
    exact this
theorem runS_cnt_take (l : List S36) (k : Nat) (hk : k ≤ 120) : Cnt 120 (runS newS (l.take k)) := (runS_cnt Cnt.new _).mono (by rw [List.length_take]; omega)
theorem playS_cnt (l : List S36) : Cnt 120 (playS l) := runS_cnt_take l 120 (Nat.le_refl _)
theorem playS_all (l : List S36) {k : Nat} (h : k = 120 ∨ (k = l.length ∧ k ≤ 120)) : runS newS (l.take k) = playS l := by
  rcases h with rfl | ⟨rfl, h⟩
  · rfl
  · rw [playS, List.take_length, List.take_of_length_le h]

theorem do_run {w w0 : World} {S : Nat → Prop} {b : Nat} {st : PSite} (h : Own w0 w S b st) (hs : Small st) (x : S36) : Calls Try.prog 14 #[.pointer (some ⟨b, 0, none⟩), .agg #[.int .i64 x.f0, .int .i64 x.f1, .int .u8 x.f2, .int .i64 x.f3]] w fun e w' =>
    e = .returned (.tuple #[.int .i64 (doS st (toR x)).2.1, .int .i64 (doS st (toR x)).2.2]) ∧ Done w S b (doS st (toR x)).1 w' := do_calls h.1 hs (toR x)
/-- A call, with what it may touch. -/
theorem do_own {w w0 : World} {S : Nat → Prop} {b : Nat} {st : PSite} (h : Own w0 w S b st) (hs : Small st) (k tx key nn : Int) : Calls Try.prog 14 #[.pointer (some ⟨b, 0, none⟩), .agg #[.int .i64 k, .int .i64 tx, .int .u8 key, .int .i64 nn]] w fun e w' =>
    e = .returned (.tuple #[.int .i64 (doS st ⟨k, tx, key, nn⟩).2.1, .int .i64 (doS st ⟨k, tx, key, nn⟩).2.2]) ∧ ∃ S', Own w0 w' S' b (doS st ⟨k, tx, key, nn⟩).1 ∧ (∀ k, S' k → S k ∨ w.heap.size ≤ k) ∧ Chg w w' S :=
  (do_calls h.1 hs ⟨k, tx, key, nn⟩).mono fun e w' hd => ⟨hd.1, h.done hd.2⟩
theorem Own.bel {w W : World} {S : Nat → Prop} {b : Nat} {st : PSite} (h : Own w W S b st) : Below w.heap.size w W := h.2.2
theorem Own.site {w W : World} {S : Nat → Prop} {b : Nat} {st : PSite} (h : Own w W S b st) : Site W S b st := h.1
theorem Own.far {w W : World} {S : Nat → Prop} {b : Nat} {st : PSite} (h : Own w W S b st) : ∀ k, S k → w.heap.size ≤ k := h.2.1
theorem Own.keep {w W : World} {S : Nat → Prop} {b : Nat} {st : PSite} (h : Own w W S b st) {k : Nat} {o : Obj} (hk : w.heap[k]? = some o) : W.heap[k]? = some o := (h.bel.block _ (Array.getElem?_eq_some_iff.1 hk).1).trans hk
theorem heap_lt {W : World} {g : Nat} {o : Obj} (h : W.heap[g]? = some o) : g < W.heap.size := (Array.getElem?_eq_some_iff.1 h).1
theorem two {W : World} {g t : Nat} {a b : Value} (h : W.heap[g]? = some (.cells #[a, b] t (0, 0))) : W.cell? ⟨g, 0, none⟩ = some a ∧ W.cell? ⟨g, 1, none⟩ = some b := ⟨blk_cell h 0, blk_cell h 1⟩
theorem three {W : World} {g t : Nat} {a b c : Value} (h : W.heap[g]? = some (.cells #[a, b, c] t (0, 0))) : W.cell? ⟨g, 0, none⟩ = some a ∧ W.cell? ⟨g, 1, none⟩ = some b ∧ W.cell? ⟨g, 2, none⟩ = some c := ⟨blk_cell h 0, blk_cell h 1, blk_cell h 2⟩
theorem small_of {s : PSite} {N : Nat} (h : Cnt N s) (hN : N ≤ 1000) : Small s := h.small (by omega)
theorem cell_four {W : World} {g : Nat} {a b c d : Value} {t : Nat} (h : W.heap[g]? = some (.cells #[a, b, c, d] t (0, 0))) : g < W.heap.size := World.block_lt_of_cell? W _ (four h).1.1

set_option maxRecDepth 100000 in
set_option maxHeartbeats 4000000 in
theorem played_calls (A : Option Addr) (c : Nat) (l : List S36) (w : World) (hr : Kd.C k36 w A l.length l) (hc : l.length ≤ c) :
    Calls Try.prog 19 #[.slice A l.length c] w fun e w' => ∃ b S, e = .returned (.pointer (some ⟨b, 0, none⟩)) ∧ Own w w' S b (playS l) := by
  have HNW := Aside0.mk (new_own w)
  have HR := Aside0.mk hr
  clear hr
  go_enter Try.func19, Try.ntmps19
  go_wp2_with (go_at_call 13; with_reducible refine (HNW.out).mono ?_; rintro e w1 ⟨b, S0, rfl, hO⟩; have HO := Aside0.mk hO; clear hO)
  go_loopg [4] 120 (fun gg s4 wr => ∃ kk : Nat, ∃ S, s4 = .int .i64 (kk : Int) ∧ Aside0 (kk ≤ 120 ∧ kk ≤ l.length ∧ 120 - kk ≤ gg) ∧ Aside0 (Own w wr S b (runS newS (l.take kk))))
  case atStart => exact ⟨0, S0, rfl, ⟨by omega, Nat.zero_le _, by omega⟩, HO⟩
  case round =>
    obtain ⟨kk, S, rfl, HK, HO⟩ := hrel
    by_cases hlt : kk < l.length
    · have hlt' : decide ((kk : Int) < (l.length : Int)) = true := decide_eq_true (by omega)
      by_cases h12 : kk < 120
      · have h12' : decide ((kk : Int) < 120) = true := decide_eq_true (by omega)
        obtain ⟨g', rfl⟩ : ∃ g', gk = g' + 1 := ⟨gk - 1, by have := HK.out; omega⟩
        obtain ⟨ad, e0, h0, h1, h2, h3⟩ := at_T36 HR.out (kk : Int) (by omega) (by omega)
        cases e0
        rw [Int.toNat_natCast] at h0 h1 h2 h3
        replace h0 := (HO.out.2.2.cell (World.block_lt_of_cell? _ _ h0)).trans h0
        replace h1 := (HO.out.2.2.cell (World.block_lt_of_cell? _ _ h1)).trans h1
        replace h2 := (HO.out.2.2.cell (World.block_lt_of_cell? _ _ h2)).trans h2
        replace h3 := (HO.out.2.2.cell (World.block_lt_of_cell? _ _ h3)).trans h3
        have HSN := Aside0.mk (runS_take newS l kk hlt)
        have HCN := Aside0.mk (runS_cnt_take l kk (by omega))
        generalize rd_T36 l (kk : Int) = x at h0 h1 h2 h3 HSN
        have HDO := Aside0.mk (do_run HO.out (HCN.out.small (by omega)) x)
        go_wp2_with (go_at_call 14; with_reducible refine (HDO.out).mono ?_; rintro e w5 ⟨rfl, hx⟩; have HX := Aside0.mk (HO.out.done hx); clear hx)
        obtain ⟨S', k1, k2, k3⟩ := HX.out
        go_roundg g'
        case measure => have := HK.out; omega
        case rel => exact ⟨kk + 1, S', by go_num, ⟨by omega, by omega, by have := HK.out; omega⟩, ⟨by rw [HSN.out]; exact k1⟩⟩
      · have h12' : decide ((kk : Int) < 120) = false := decide_eq_false (by omega)
        have HE := Aside0.mk (playS_all l (k := kk) (.inl (by have := HK.out; omega)))
        go_wp2
        go_ret
        exact ⟨_, _, rfl, by rw [← HE.out]; exact HO.out⟩
    · have hlt' : decide ((kk : Int) < (l.length : Int)) = false := decide_eq_false (by omega)
      have HE := Aside0.mk (playS_all l (k := kk) (.inr (by have := HK.out; omega)))
      go_wp2
      go_ret
      exact ⟨_, _, rfl, by rw [← HE.out]; exact HO.out⟩
end Go.Proofs.Ytolpcfjmhimpeaa.HS

/- The plain laws of locks. -/

namespace Go.Proofs.Ytolpcfjmhimpeaa.H
open Go.RowKit Go.Proofs.YtolpcfjmhimpeaaW.PrintWords Go.Proofs.YtolpcfjmhimpeaaW.PrintLast Go.Proofs.Ytolpcfjmhimpeaa.P
set_option linter.unusedVariables false
set_option linter.unusedSimpArgs false

/-! ### the order of holds -/
def Lt (a b : S119) : Prop := a.f0 < b.f0 ∨ a.f0 = b.f0 ∧ a.f1 < b.f1
theorem ord_lt (a b : S119) : ordI a b < 0 ↔ Lt a b := by
  unfold ordI orI cmpI Lt
  (repeat' split) <;> omega
theorem ord_eq (a b : S119) : ordI a b = 0 ↔ a.f0 = b.f0 ∧ a.f1 = b.f1 := by
  unfold ordI orI cmpI
  (repeat' split) <;> omega
theorem ord_gt (a b : S119) : 0 < ordI a b ↔ Lt b a := by
  unfold ordI orI cmpI Lt
  (repeat' split) <;> omega
theorem Lt.trans {a b c : S119} (h : Lt a b) (k : Lt b c) : Lt a c := by unfold Lt at *; omega
theorem Lt.irrefl {a : S119} (h : Lt a a) : False := by unfold Lt at h; omega

def MayH (h : S119) : Prop := mayB h.f1 h.f0 = true
def Two (a b : S119) : Prop := Lt a b ∧ (a.f0 = b.f0 → a.f2 = false ∧ b.f2 = false)
theorem pairB_iff (a b : S119) : pairB a b = true ↔ Two a b := by
  unfold pairB Two
  rw [← ord_lt]
  cases h1 : decide (ordI a b ≥ 0) <;> cases h2 : (a.f0 == b.f0) <;> cases h3 : a.f2 <;> cases h4 : b.f2 <;> simp_all <;> omega
structure RightP (l : List S119) : Prop where
  may : ∀ h ∈ l, MayH h
  two : l.Pairwise Two
theorem Two.chain {a b c : S119} (h : Two a b) (k : Two b c) : Two a c := by
  refine ⟨h.1.trans k.1, fun e => ?_⟩
  have h1 := h.1
  have k1 := k.1
  have e1 : a.f0 = b.f0 := by unfold Lt at h1 k1; omega
  have e2 : b.f0 = c.f0 := by omega
  exact ⟨(h.2 e1).1, (k.2 e2).2⟩

theorem right_cons (x : S119) (l : List S119) : right (x :: l) = (mayB x.f1 x.f0 && (match l with | [] => true | y :: _ => pairB x y) && right l) := by
  unfold right
  rw [List.length_cons, List.range_succ_eq_map, List.all_cons, List.all_map]
  cases l with
  | nil => simp [okAt]
  | cons y l =>
    rw [List.length_cons, List.range_succ_eq_map, List.all_cons, List.all_cons, List.all_map, List.all_map]
    simp only [okAt, Function.comp_def]
    simp [Bool.and_assoc, Bool.and_comm, Bool.and_left_comm]

theorem right_iff (l : List S119) : right l = true ↔ RightP l := by
  induction l with
  | nil => exact ⟨fun _ => ⟨by simp, List.Pairwise.nil⟩, fun _ => rfl⟩
  | cons x l ih =>
    rw [right_cons, Bool.and_eq_true, Bool.and_eq_true, ih]
    constructor
    · rintro ⟨⟨h1, h2⟩, h3⟩
      refine ⟨fun h hm => ?_, List.pairwise_cons.2 ⟨fun b hb => ?_, h3.two⟩⟩
      · rcases List.mem_cons.1 hm with rfl | hm
        · exact h1
        · exact h3.may h hm
      · cases l with
        | nil => simp at hb
        | cons y l =>
          have hxy := (pairB_iff x y).1 h2
          rcases List.mem_cons.1 hb with rfl | hb
          · exact hxy
          · exact hxy.chain ((List.pairwise_cons.1 h3.two).1 b hb)
    · intro h
      refine ⟨⟨h.may x (by simp), ?_⟩, ⟨fun a ha => h.may a (by simp [ha]), (List.pairwise_cons.1 h.two).2⟩⟩
      cases l with
      | nil => rfl
      | cons y l => exact (pairB_iff x y).2 ((List.pairwise_cons.1 h.two).1 y (by simp))

/-! ### where one stands -/
theorem bs_spec (q : Int → Bool) (n : Int) (hq : ∀ i j, 0 ≤ i → i ≤ j → j < n → q j = true → q i = true) (f : Nat) : ∀ i j, 0 ≤ i → i ≤ j → j ≤ n → j - i ≤ f → (∀ a, 0 ≤ a → a < i → q a = true) → (∀ a, j ≤ a → a < n → q a = false) →
    ∀ a, 0 ≤ a → a < n → (q a = true ↔ a < bs q f i j) := by
  induction f with
  | zero =>
    intro i j h0 h1 h2 h3 hl hr a ha hn
    unfold bs
    by_cases h : a < i
    · exact ⟨fun _ => h, fun _ => hl a ha h⟩
    · exact ⟨fun hh => absurd hh (by rw [hr a (by omega) hn]; simp), fun hh => absurd hh h⟩
  | succ f ih =>
    intro i j h0 h1 h2 h3 hl hr a ha hn
    unfold bs
    by_cases hij : i < j
    · rw [if_pos hij]
      cases hm : q ((i + j) / 2) with
      | true =>
        rw [if_pos rfl]
        exact ih _ _ (by omega) (by omega) h2 (by omega) (fun b hb0 hb => hq b ((i + j) / 2) hb0 (by omega) (by omega) hm) hr a ha hn
      | false =>
        rw [if_neg (by simp)]
        refine ih _ _ h0 (by omega) (by omega) (by omega) hl (fun b hb hbn => ?_) a ha hn
        cases hb2 : q b with
        | false => rfl
        | true => rw [hq ((i + j) / 2) b (by omega) hb hbn hb2] at hm; cases hm
    · rw [if_neg hij]
      by_cases h : a < i
      · exact ⟨fun _ => h, fun _ => hl a ha h⟩
      · exact ⟨fun hh => absurd hh (by rw [hr a (by omega) hn]; simp), fun hh => absurd hh h⟩

/-- A list of rising holds, cut where x stands or would stand. -/
structure Cut (l : List S119) (x : S119) (A B : List S119) : Prop where
  eq : l = A ++ B
  at_ : spot l x = A.length
  low : ∀ a ∈ A, Lt a x
  high : ∀ b ∈ B, ¬ Lt b x
theorem getD_at (l : List S119) (i : Nat) (h : i < l.length) : l.getD i z119 = l[i] := by rw [List.getD_eq_getElem?_getD, List.getElem?_eq_getElem h]; rfl

theorem cut (l : List S119) (hl : l.Pairwise Two) (x : S119) : ∃ A B, Cut l x A B := by
  have hq : ∀ i j : Int, 0 ≤ i → i ≤ j → j < (l.length : Int) → lessH l x j = true → lessH l x i = true := by
    intro i j h0 hij hj h
    unfold lessH at *
    rw [decide_eq_true_iff, ord_lt] at *
    rcases Int.lt_or_eq_of_le hij with hlt | rfl
    · unfold rd_T119 at *
      rw [getD_at l _ (by omega)] at h ⊢
      exact ((List.pairwise_iff_getElem.1 hl i.toNat j.toNat (by omega) (by omega) (by omega)).1).trans h
    · exact h
  have hs := bs_spec (lessH l x) l.length hq l.length 0 l.length (by omega) (by omega) (by omega) (by omega) (fun a h1 h2 => by omega) (fun a h1 h2 => by omega)
  have hr := bs_range (lessH l x) l.length 0 l.length (by omega)
  have hsp : spot l x = bs (lessH l x) l.length 0 l.length := rfl
  rw [← hsp] at hs hr
  have key : ∀ i, ∀ hi : i < l.length, (Lt l[i] x ↔ (i : Int) < spot l x) := by
    intro i hi
    have := hs (i : Int) (by omega) (by omega)
    unfold lessH rd_T119 at this
    rw [Int.toNat_natCast, getD_at l i hi, decide_eq_true_iff, ord_lt] at this
    exact this
  refine ⟨l.take (spot l x).toNat, l.drop (spot l x).toNat, (List.take_append_drop _ _).symm, by rw [List.length_take]; omega, fun a ha => ?_, fun b hb => ?_⟩
  · obtain ⟨i, hi, rfl⟩ := List.mem_iff_getElem.1 ha
    rw [List.length_take] at hi
    rw [List.getElem_take]
    exact (key i (by omega)).2 (by omega)
  · obtain ⟨i, hi, rfl⟩ := List.mem_iff_getElem.1 hb
    rw [List.length_drop] at hi
    rw [List.getElem_drop]
    intro h
    have := (key _ (by omega)).1 h
    omega
def headIs (x : S119) : List S119 → Bool
  | [] => false
  | b :: _ => ordI b x == 0
theorem Cut.nth {l A B : List S119} {x : S119} (h : Cut l x A B) : found l x = headIs x B := by
  obtain ⟨he, ha, _, _⟩ := h
  unfold found rd_T119
  rw [ha, Int.toNat_natCast]
  subst he
  unfold headIs
  cases B with
  | nil => simp
  | cons b B => simp [List.getD_eq_getElem?_getD]; omega

theorem lt_of_not {b x : S119} (h : ¬ Lt b x) (hne : (ordI b x == 0) = false) : Lt x b := by
  have h1 := ord_lt b x
  have h2 := ord_gt b x
  have h3 : ordI b x ≠ 0 := by simpa using hne
  rw [← h2]
  have h4 : ¬ ordI b x < 0 := fun h' => h (h1.1 h')
  omega

/-- Where the lock is taken: all lower ones, the one, all higher ones. -/
structure Around (l : List S119) (e : S119) (A C : List S119) : Prop where
  eq : l = A ++ e :: C
  low : ∀ a ∈ A, Lt a e
  high : ∀ c ∈ C, Lt e c

theorem no_lt {a b x y : S119} (h : x.f0 = y.f0) (k : x.f1 = y.f1) : (Lt a x ↔ Lt a y) ∧ (Lt x b ↔ Lt y b) := by unfold Lt; omega

theorem around_cut {l A C : List S119} {e : S119} (h : Around l e A C) (hl : l.Pairwise Two) (x : S119) (h0 : e.f0 = x.f0) (h1 : e.f1 = x.f1) : Cut l x A (e :: C) := by
  obtain ⟨A', B', hc⟩ := cut l hl x
  have hE : ordI e x = 0 := (ord_eq e x).2 ⟨h0, h1⟩
  have hnl : ¬ Lt e x := fun h => by rw [← ord_lt, hE] at h; omega
  have key : A = A' ∧ e :: C = B' := by
    have heq : A ++ e :: C = A' ++ B' := h.eq.symm.trans hc.eq
    have hlow : ∀ a ∈ A, Lt a x := fun a ha => ((no_lt h0 h1 (a := a) (b := a)).1).1 (h.low a ha)
    have hlen : A.length = A'.length := by
      rcases Nat.lt_trichotomy A.length A'.length with hh | hh | hh
      · exfalso
        have : e ∈ A' := by
          have : (A ++ e :: C)[A.length]? = some e := by simp
          rw [heq, List.getElem?_append_left hh] at this
          exact List.mem_of_getElem? this
        exact hnl (hc.low e this)
      · exact hh
      · exfalso
        have : A[A'.length]? = B'[0]? := by
          have h3 : (A ++ e :: C)[A'.length]? = A[A'.length]? := List.getElem?_append_left hh
          rw [heq, List.getElem?_append_right (Nat.le_refl _), Nat.sub_self] at h3
          exact h3.symm
        rw [List.getElem?_eq_getElem hh] at this
        exact hc.high _ (List.mem_of_getElem? this.symm) (hlow _ (List.getElem_mem hh))
    exact List.append_inj heq hlen
  obtain ⟨rfl, rfl⟩ := key
  exact hc

/-- What is taken, there being no conflict. -/
theorem take_cut {l : List S119} (hl : RightP l) {tx key : Int} (hm : mayB tx key = true) (w : Bool) (hc : l.any (confl tx key w) = false) :
    ∃ A B, Cut l ⟨key, tx, w⟩ A B ∧ ((headIs ⟨key, tx, w⟩ B = false ∧ takeP l tx key w = (A ++ ⟨key, tx, w⟩ :: B, 0) ∧ Around (A ++ ⟨key, tx, w⟩ :: B) ⟨key, tx, w⟩ A B) ∨
      ∃ h C, B = h :: C ∧ h.f0 = key ∧ h.f1 = tx ∧ takeP l tx key w = (A ++ ⟨key, tx, h.f2 || w⟩ :: C, 0) ∧ Around (A ++ ⟨key, tx, h.f2 || w⟩ :: C) ⟨key, tx, h.f2 || w⟩ A C ∧ Around l h A C) := by
  obtain ⟨A, B, hcut⟩ := cut l hl.two ⟨key, tx, w⟩
  refine ⟨A, B, hcut, ?_⟩
  have hn := hcut.nth
  have hT : takeP l tx key w = if found l ⟨key, tx, w⟩ = true then (l.set (spot l ⟨key, tx, w⟩).toNat ⟨(rd_T119 l (spot l ⟨key, tx, w⟩)).f0, (rd_T119 l (spot l ⟨key, tx, w⟩)).f1, (rd_T119 l (spot l ⟨key, tx, w⟩)).f2 || w⟩, 0) else (insH l (spot l ⟨key, tx, w⟩).toNat ⟨key, tx, w⟩, 0) := by
    unfold takeP
    rw [if_neg (by rw [(right_iff l).2 hl]; simp), if_neg (by rw [hm]; simp), if_neg (by rw [hc]; simp)]
  cases hh : headIs ⟨key, tx, w⟩ B with
  | false =>
    refine .inl ⟨rfl, ?_, ⟨rfl, hcut.low, fun b hb => ?_⟩⟩
    · rw [hT, hn, hh, if_neg (by simp), hcut.at_, Int.toNat_natCast]
      unfold insH
      rw [hcut.eq, List.take_left, List.drop_left]
    · cases B with
      | nil => simp at hb
      | cons b0 B =>
        have h0 : Lt ⟨key, tx, w⟩ b0 := lt_of_not (hcut.high b0 (by simp)) hh
        rcases List.mem_cons.1 hb with rfl | hb
        · exact h0
        · have := hl.two
          rw [hcut.eq] at this
          exact h0.trans ((List.pairwise_cons.1 (List.pairwise_append.1 this).2.1).1 b hb).1
  | true =>
    cases B with
    | nil => simp [headIs] at hh
    | cons h C =>
      have he : ordI h ⟨key, tx, w⟩ = 0 := by simpa [headIs] using hh
      obtain ⟨e0, e1⟩ := (ord_eq _ _).1 he
      have hp := hl.two
      rw [hcut.eq] at hp
      have hC : ∀ c ∈ C, Lt h c := fun c hc => ((List.pairwise_cons.1 (List.pairwise_append.1 hp).2.1).1 c hc).1
      have hA : ∀ a ∈ A, Lt a h := fun a ha => ((List.pairwise_append.1 hp).2.2 a ha h (by simp)).1
      refine .inr ⟨h, C, rfl, e0, e1, ?_, ⟨rfl, fun a ha => ((no_lt (x := h) (y := ⟨key, tx, h.f2 || w⟩) e0 e1 (a := a) (b := a)).1).1 (hA a ha), fun c hc => ((no_lt (x := h) (y := ⟨key, tx, h.f2 || w⟩) e0 e1 (a := c) (b := c)).2).1 (hC c hc)⟩, ⟨hcut.eq, hA, hC⟩⟩
      rw [hT, hn, hh, if_pos rfl, hcut.at_, Int.toNat_natCast]
      unfold rd_T119
      rw [Int.toNat_natCast]
      have hg : l.getD A.length z119 = h := by rw [hcut.eq]; simp [List.getD_eq_getElem?_getD]
      rw [hg]
      have hs : ∀ y, l.set A.length y = A ++ y :: C := fun y => by rw [hcut.eq]; simp [List.set_append]
      rw [hs]
      have e0' : h.f0 = key := e0
      have e1' : h.f1 = tx := e1
      rw [e0', e1']

theorem confl_at {l : List S119} {tx key : Int} {w : Bool} (hc : l.any (confl tx key w) = false) {h : S119} (hm : h ∈ l) (hk : h.f0 = key) (ht : h.f1 ≠ tx) : w = false ∧ h.f2 = false := by
  have := (List.any_eq_false.1 hc) h hm
  unfold confl at this
  simp [hk, ht] at this
  exact this

theorem two_same {a x y : S119} (h : Two a x) (h0 : x.f0 = y.f0) (h1 : x.f1 = y.f1) (h2 : a.f0 = y.f0 → a.f2 = false ∧ y.f2 = false) : Two a y := ⟨((no_lt h0 h1 (a := a) (b := a)).1).1 h.1, h2⟩

/-- What comes of it may be. -/
theorem take_right {l : List S119} (hl : RightP l) {tx key : Int} (hm : mayB tx key = true) (w : Bool) (hc : l.any (confl tx key w) = false) : RightP (takeP l tx key w).1 ∧ (takeP l tx key w).2 = 0 := by
  obtain ⟨A, B, hcut, ⟨hh, ht, har⟩ | ⟨h, C, rfl, e0, e1, ht, har, har0⟩⟩ := take_cut hl hm w hc
  · have hp := hl.two
    rw [hcut.eq] at hp
    obtain ⟨pA, pB, pAB⟩ := List.pairwise_append.1 hp
    rw [ht]
    refine ⟨⟨fun x hx => ?_, ?_⟩, rfl⟩
    · rcases List.mem_append.1 hx with hx | hx
      · exact hl.may x (by rw [hcut.eq]; simp [hx])
      · rcases List.mem_cons.1 hx with rfl | hx
        · exact hm
        · exact hl.may x (by rw [hcut.eq]; simp [hx])
    · refine List.pairwise_append.2 ⟨pA, List.pairwise_cons.2 ⟨fun b hb => ⟨har.high b hb, fun hk => ?_⟩, pB⟩, fun a ha b hb => ?_⟩
      · have := confl_at hc (h := b) (by rw [hcut.eq]; simp [hb]) hk.symm (fun e => by have := har.high b hb; unfold Lt at this; simp at this hk; omega)
        exact this
      · rcases List.mem_cons.1 hb with rfl | hb
        · refine ⟨har.low a ha, fun hk => ?_⟩
          have := confl_at hc (h := a) (by rw [hcut.eq]; simp [ha]) hk (fun e => by have := har.low a ha; unfold Lt at this; simp at this hk; omega)
          exact ⟨this.2, this.1⟩
        · exact pAB a ha b hb
  · have hp := hl.two
    rw [hcut.eq] at hp
    obtain ⟨pA, pB, pAB⟩ := List.pairwise_append.1 hp
    obtain ⟨pC1, pC2⟩ := List.pairwise_cons.1 pB
    rw [ht]
    refine ⟨⟨fun x hx => ?_, ?_⟩, rfl⟩
    · rcases List.mem_append.1 hx with hx | hx
      · exact hl.may x (by rw [hcut.eq]; simp [hx])
      · rcases List.mem_cons.1 hx with rfl | hx
        · exact hm
        · exact hl.may x (by rw [hcut.eq]; simp [hx])
    · refine List.pairwise_append.2 ⟨pA, List.pairwise_cons.2 ⟨fun c hcm => ⟨har.high c hcm, fun hk => ?_⟩, pC2⟩, fun a ha b hb => ?_⟩
      · have h1 := confl_at hc (h := c) (by rw [hcut.eq]; simp [hcm]) hk.symm (fun e => by have := har.high c hcm; unfold Lt at this; simp at this hk; omega)
        have h2 := (pC1 c hcm).2 (by rw [e0]; exact hk)
        exact ⟨by rw [h2.1, h1.1]; rfl, h2.2⟩
      · rcases List.mem_cons.1 hb with rfl | hb
        · refine ⟨har.low a ha, fun hk => ?_⟩
          have h1 := confl_at hc (h := a) (by rw [hcut.eq]; simp [ha]) hk (fun e => by have := har.low a ha; unfold Lt at this; simp at this hk; omega)
          have h2 := (pAB a ha h (by simp)).2 (by rw [e0]; exact hk)
          exact ⟨h1.2, by show (h.f2 || w) = false; rw [h2.2, h1.1]; rfl⟩
        · exact pAB a ha b (by simp [hb])
theorem take_ok {l : List S119} (hl : RightP l) {tx key : Int} {w : Bool} (h : (takeP l tx key w).2 = 0) : mayB tx key = true ∧ l.any (confl tx key w) = false := by
  unfold takeP at h
  rw [if_neg (by rw [(right_iff l).2 hl]; simp)] at h
  cases hm : mayB tx key with
  | false => rw [hm, if_pos rfl] at h; simp at h
  | true =>
    rw [hm, if_neg (by simp)] at h
    cases hc : l.any (confl tx key w) with
    | true => rw [hc, if_pos rfl] at h; simp at h
    | false => exact ⟨rfl, rfl⟩

theorem cut_unique {l A B A' B' : List S119} {x : S119} (h : Cut l x A B) (k : Cut l x A' B') : A = A' ∧ B = B' := by
  refine List.append_inj (h.eq.symm.trans k.eq) ?_
  have := h.at_.symm.trans k.at_
  omega

theorem take_again {l : List S119} (hl : RightP l) {tx key : Int} {w : Bool} (h : (takeP l tx key w).2 = 0) :
    takeP (takeP l tx key w).1 tx key false = ((takeP l tx key w).1, 0) := by
  obtain ⟨hm, hc⟩ := take_ok hl h
  obtain ⟨hR, _⟩ := take_right hl hm w hc
  have main : ∀ A C e, (takeP l tx key w).1 = A ++ e :: C → Around (A ++ e :: C) e A C → e.f0 = key → e.f1 = tx → (∀ a ∈ A, a ∈ l) → (∀ c ∈ C, c ∈ l) → takeP (takeP l tx key w).1 tx key false = ((takeP l tx key w).1, 0) := by
    intro A C e hx har e0 e1 hA hC
    rw [hx] at hR ⊢
    have hc2 : (A ++ e :: C).any (confl tx key false) = false := by
      rw [List.any_eq_false]
      intro y hy
      have hyl : y = e ∨ y ∈ l := by
        rcases List.mem_append.1 hy with hy | hy
        · exact .inr (hA y hy)
        · rcases List.mem_cons.1 hy with rfl | hy
          · exact .inl rfl
          · exact .inr (hC y hy)
      unfold confl
      rcases hyl with rfl | hyl
      · simp [e1]
      · by_cases h0 : y.f0 = key
        · by_cases h1 : y.f1 = tx
          · simp [h1]
          · simp [(confl_at hc hyl h0 h1).2]
        · simp [h0]
    obtain ⟨A', B', hcut, hh⟩ := take_cut hR hm false hc2
    obtain ⟨rfl, rfl⟩ := cut_unique (around_cut har hR.two ⟨key, tx, false⟩ e0 e1) hcut
    rcases hh with ⟨hh, _, _⟩ | ⟨h', C', hb, h0, h1, ht, _, _⟩
    · exfalso
      replace hh : (ordI e ⟨key, tx, false⟩ == 0) = false := hh
      rw [(ord_eq e ⟨key, tx, false⟩).2 ⟨e0, e1⟩] at hh
      simp at hh
    · injection hb with hb1 hb2
      subst hb1 hb2
      rw [ht, show (⟨key, tx, e.f2 || false⟩ : S119) = e from by cases e; simp at *; exact ⟨e0.symm, e1.symm⟩]
  obtain ⟨A, B, hcut, ⟨hh, ht, har⟩ | ⟨y, C, rfl, e0, e1, ht, har, har0⟩⟩ := take_cut hl hm w hc
  · exact main A B _ (by rw [ht]) har rfl rfl (fun a ha => by rw [hcut.eq]; simp [ha]) (fun c hcm => by rw [hcut.eq]; simp [hcm])
  · exact main A C _ (by rw [ht]) har rfl rfl (fun a ha => by rw [hcut.eq]; simp [ha]) (fun c hcm => by rw [hcut.eq]; simp [hcm])
theorem take_rightP {l : List S119} {tx key : Int} {w : Bool} (h : (takeP l tx key w).2 = 0) : RightP l := by
  unfold takeP at h
  cases hr : right l with
  | true => exact (right_iff l).1 hr
  | false => rw [hr, if_pos rfl] at h; simp at h
end Go.Proofs.Ytolpcfjmhimpeaa.H

/- What calls answer. -/

namespace Go.Proofs.Ytolpcfjmhimpeaa.HS
open Go.RowKit Go.Proofs.YtolpcfjmhimpeaaW.PrintWords Go.Proofs.YtolpcfjmhimpeaaW.PrintLast Go.Proofs.YtolpcfjmhimpeaaW.PrintMore Go.Proofs.Ytolpcfjmhimpeaa.P
open Go.Maps (Keyed)
open Go.ChangeMaps Go.MapKept
set_option linter.unusedVariables false
set_option linter.unusedSimpArgs false

/-- A read that was answered. -/
theorem read_ok {s : PSite} {tx key : Int} (h : (doS s ⟨2, tx, key, 0⟩).2.2 = 0) : (0 ≤ tx ∧ tx < 1000) ∧ (s.parts tx).isSome = true ∧ ((s.parts tx).getD zeroP).st = 0 ∧ (H.takeP s.locks tx key false).2 = 0 ∧
    doS s ⟨2, tx, key, 0⟩ = ({ s with locks := (H.takeP s.locks tx key false).1, log := s.log ++ [⟨2, tx, key, 0⟩] }, ownSum (getL s.led key) key ((s.parts tx).getD zeroP).adds, 0) := by
  have hstep : ∀ p, stepS s p ⟨2, tx, key, 0⟩ = accessS s p ⟨2, tx, key, 0⟩ := fun p => rfl
  unfold doS at *
  simp only [hstep] at *
  split at h
  · simp at h
  · rename_i h1
    rw [if_neg h1]
    split at h
    · simp at h
    · rename_i h2
      rw [if_neg h2]
      split at h
      · simp at h
      · rename_i h3
        rw [if_neg h3]
        have h4 : (s.parts tx).isSome = true := by
          cases hi : (s.parts tx).isSome with
          | true => rfl
          | false => exact absurd ⟨hi, by simp⟩ h3
        split at h
        · rename_i h5; exact absurd h h5
        · rename_i h5
          rw [if_neg h5]
          unfold accessS at *
          simp only at *
          split at h5
          · simp at h5
          · rename_i h6
            rw [if_neg h6]
            split at h5
            · rename_i h7; exact absurd h5 (by simpa using h7)
            · rename_i h7
              rw [if_neg h7, if_neg (by decide)]
              exact ⟨by omega, h4, by simpa using h6, by simpa using h7, rfl⟩
/-- One that may read. -/
theorem read_is {s : PSite} {tx key : Int} (hx : 0 ≤ tx ∧ tx < 1000) (hi : (s.parts tx).isSome = true) (hp : ((s.parts tx).getD zeroP).st = 0) (hk : (H.takeP s.locks tx key false).2 = 0) :
    doS s ⟨2, tx, key, 0⟩ = ({ s with locks := (H.takeP s.locks tx key false).1, log := s.log ++ [⟨2, tx, key, 0⟩] }, ownSum (getL s.led key) key ((s.parts tx).getD zeroP).adds, 0) := by
  have hstep : stepS s ((s.parts tx).getD zeroP) ⟨2, tx, key, 0⟩ = ({ s with locks := (H.takeP s.locks tx key false).1 }, ownSum (getL s.led key) key ((s.parts tx).getD zeroP).adds, 0) := by
    show accessS s ((s.parts tx).getD zeroP) ⟨2, tx, key, 0⟩ = _
    unfold accessS
    simp only
    rw [if_neg (by simpa using hp), if_neg (by simpa using hk), if_neg (by decide)]
    rfl
  unfold doS
  simp only [hstep, hi]
  rw [if_neg (by omega), if_neg (by simp), if_neg (by simp), if_neg (by simp)]
/-- An add that was done. -/
theorem add_ok {s : PSite} {tx key n : Int} (hx : 0 ≤ tx ∧ tx < 1000) (hi : (s.parts tx).isSome = true) (hp : ((s.parts tx).getD zeroP).st = 0) (h : (doS s ⟨3, tx, key, n⟩).2.2 = 0) : (H.takeP s.locks tx key true).2 = 0 ∧
    doS s ⟨3, tx, key, n⟩ = ({ s with locks := (H.takeP s.locks tx key true).1, parts := upd s.parts tx { (s.parts tx).getD zeroP with adds := ((s.parts tx).getD zeroP).adds ++ [⟨key, n⟩] }, log := s.log ++ [⟨3, tx, key, n⟩] }, 0, 0) := by
  have hstep : ∀ p, stepS s p ⟨3, tx, key, n⟩ = accessS s p ⟨3, tx, key, n⟩ := fun p => rfl
  unfold doS at *
  simp only [hstep, hi] at *
  rw [if_neg (by omega), if_neg (by simp), if_neg (by simp)] at h ⊢
  split at h
  · rename_i h5; exact absurd h h5
  · rename_i h5
    rw [if_neg h5]
    unfold accessS at *
    simp only at *
    rw [if_neg (by simpa using hp)] at h5 ⊢
    split at h5
    · rename_i h7; exact absurd h5 (by simpa using h7)
    · rename_i h7
      rw [if_neg h7, if_pos trivial]
      split at h5
      · rename_i h8; exact absurd h5 (by simpa using h8)
      · rename_i h8
        rw [if_neg h8]
        refine ⟨by simpa using h7, ?_⟩
        have : (addP ((s.parts tx).getD zeroP) ⟨key, n⟩) = ({ (s.parts tx).getD zeroP with adds := ((s.parts tx).getD zeroP).adds ++ [⟨key, n⟩] }, 0) := by
          unfold addP at *
          split at h8
          · simp at h8
          · rename_i h9
            rw [if_neg h9]
            split at h8
            · simp at h8
            · rename_i h10
              rw [if_neg h10]
              split at h8
              · simp at h8
              · rename_i h11
                rw [if_neg h11]
        rw [this]
        rfl
end Go.Proofs.Ytolpcfjmhimpeaa.HS
